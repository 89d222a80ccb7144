import Derived.Test.YtmejjphliaiamaaGreatDoorMeK
import Derived.Test.YtmejjphliaiamaaGreatDoorQuH
import Derived.Test.YtmejjphliaiamaaGreatDoorMeH
set_option linter.unusedVariables false
set_option linter.unusedSimpArgs false
namespace Go.Proofs.YtmejjphliaiamaaGreatDoor
open Go Go.RowKit Go.Lib Go.Sort

/-! ### the document's first example -/
def mz32 : ByteArray := ⟨(List.replicate 32 0).toArray⟩
def dEx : DV := { dz with kind := 4, ver := 1, exp := 9, of := 1, hash := mz32 }
def bEx : ByteArray := ⟨#[4, 0, 1, 0, 0, 0, 0, 0, 0, 0, 9, 0, 1, 0, 0, 0, 0, 0, 0, 0, 0, 0, 0, 0, 0, 0, 0, 0, 0, 0, 0, 0, 0, 0, 0, 0, 0, 0, 0, 0, 0, 0, 0, 0, 0]⟩
theorem enc_ex : encP dEx (chk4 dEx) (lay4 dEx) = (bEx, 0) := by decide +kernel
theorem seal_ex : (sealP bEx []).2 = 0 := by decide +kernel
theorem dts_ex : dts bEx = dEx := by kernel_rfl
theorem kind_ex : (rA bEx).1 = 4 := by decide +kernel
theorem dec_ex : decE (ts2 (rC bEx).2).2 (chk4 (dts bEx)) = 0 := by decide +kernel
theorem mmake32 (w : World) : (Instr.makeSlice 47 (.int .i64 32) (.int .i64 32)).run Tryz.prog w = .ok (.slice (some ⟨w.heap.size, 0, none⟩) 32 32) (w.alloc (.cells (Array.replicate 32 (.int .u8 0)) 5)) := by kernel_rfl
theorem mzeros32_cells : strCells mz32 = List.replicate 32 (.int .u8 0) := by kernel_rfl
theorem mzeros32 (w : World) : OwnB (w.alloc (.cells (Array.replicate 32 (.int .u8 0)) 5)) w.heap.size (.slice (some ⟨w.heap.size, 0, none⟩) 32 32) mz32 := by
  refine ⟨by rw [mzeros32_cells]; rfl, .inr ⟨w.heap.size, 32, _, rfl, Nat.le_refl _, blk_new _ _, Nat.le_refl _, by unfold maxLen; omega, rfl, ?_⟩⟩
  rw [mzeros32_cells]
  rfl
theorem decode_ex (w : World) : Calls Tryz.prog 11 #[.string bEx] w (DecPost 0 (fun d _ => d = dEx) w) := by
  have h := decode4 bEx w (by decide) kind_ex
  rw [dec_ex, dts_ex] at h
  exact h
theorem encode_ex (w : World) : Calls Tryz.prog 9 #[.agg (docC dEx)] w fun e w' => e = .returned (.tuple #[.string bEx, .int .i64 0]) ∧ Below w.heap.size w w' := by
  have h := encode4 dEx w rfl (by unfold I64; decide) (by unfold I64; decide) (by unfold I64; decide) (by decide)
  rw [enc_ex] at h
  exact h
theorem setsz (w : World) : SetM w sz ([], 0) := ⟨rfl, rfl, fun i t h => by simp at h⟩
theorem same_ex (w : World) : Calls Tryz.prog 12 #[.agg (docC dEx), .agg (docC dEx)] w fun e w' => e = .returned (.bool true) ∧ Below w.heap.size w w' := by
  have h := samedoc_any dEx dEx (fun _ => true) [] [] w (by decide) (by decide) rfl rfl (fun i t h => by simp at h) (fun i t h => by simp at h) (fun (k : Nat) (s t : SV) (W : World) (hs : (setL dEx)[k]? = some s) (ht : (setL dEx)[k]? = some t) _ => by
    have h5 : ∀ (k : Nat) (s : SV), (setL dEx)[k]? = some s → s = sz := by
      intro k s hs
      have := List.mem_of_getElem? hs
      simp only [setL, List.mem_cons, List.not_mem_nil, or_false] at this
      rcases this with h | h | h | h | h <;> exact h
    obtain rfl := h5 k s hs
    obtain rfl := h5 k t ht
    exact sameset_any sz sz ([], 0) ([], 0) W (by decide) (by decide) (setsz W) (setsz W))
  have e : sameB dEx dEx (fun _ => true) [] [] = true := by decide +kernel
  rw [e] at h
  exact h

set_option maxRecDepth 100000 in
set_option maxHeartbeats 4000000 in
theorem seals_any (w : World) : Calls Tryz.prog 8 #[] w fun e w' => e = .returned (.bool true) ∧ Below w.heap.size w w' := by
  have hSe := fun W => seal_any bEx none [] 0 W (fun i f h => by simp at h) (by decide) (by decide)
  have hse2 : sealP bEx [] = ((sealP bEx []).1, 0) := Prod.ext rfl seal_ex
  have hus : usP (sealP bEx []).1 = ((bEx, []), 0) := us_back seal_ex
  have hsz : (sealP bEx []).1.size ≤ 1000000000 := by decide +kernel
  rw [hse2] at hSe
  generalize (sealP bEx []).1 = S at hSe hus hsz
  have hOp := fun W => open_ok S bEx [] 4 dEx W hsz hus rfl decode_ex
  have HSe := Lib.hid hSe
  have HOp := Lib.hid hOp
  have HEn := Lib.hid encode_ex
  have HSm := Lib.hid same_ex
  clear hSe hse2 hus hsz hOp
  have hmk := mmake32
  go_enter Tryz.func8, Tryz.ntmps8
  go_wp2_with fail
  rw [run_str (mzeros32 w)]
  simp only [Result.andThen]
  rw [Oper.upon_value]
  have HB0 := Lib.hid ((Below.refl w.heap.size w).alloc (Nat.le_refl _) (.cells (Array.replicate 32 (.int .u8 0)) 5))
  generalize w.alloc (.cells (Array.replicate 32 (.int .u8 0)) 5) = w0 at HB0 ⊢
  clear hmk
  obtain ⟨w1, hw1⟩ : ∃ w1, w1 = w0.alloc (.cells (docC dz) 30) := ⟨_, rfl⟩
  have hd1 : DocAt (w0.alloc (.cells (docC dz) 30)) w0.heap.size dz := blk_new _ _
  have hd1' : DocAt w1 w0.heap.size dz := hw1 ▸ hd1
  have hb1 : Below w.heap.size w w1 := by rw [hw1]; exact HB0.out.alloc HB0.out.size _
  obtain ⟨hd2, hk2⟩ := doc_setRow hd1' dEx
  have HD1 := Lib.hid hd1
  have HD2 := Lib.hid hd2
  have hd3 : DocAt ((w0.alloc (.cells (docC dz) 30)).setRow w0.heap.size (docC dEx)) w0.heap.size dEx := (doc_setRow hd1 dEx).1
  have HD3 := Lib.hid hd3
  have HB2 := Lib.hid (hb1.trans (hk2.toBelow hb1.size (fun i hi => by have := HB0.out.size; omega)))
  simp only [docC, dz, sz] at hw1
  clear hd1 hd1' hb1 hd2 hk2 hd3
  go_wp2_with (first | refine wpList_docst rfl _ _ rfl w0.heap.size dz dEx rfl rfl HD1.out ?_ | refine wpList_doc rfl _ rfl w0.heap.size dEx rfl HD3.out ?_ | fail)
  rw [← hw1]
  clear hw1 HD1 HD3
  generalize w1.setRow w0.heap.size (docC dEx) = w2 at HD2 HB2 ⊢
  generalize w0.heap.size = db at HD2 ⊢
  refine (HEn.out w2).mono ?_
  rintro e w3 ⟨rfl, hb3⟩
  have HD3 : Hid (DocAt w3 db dEx) := Lib.hid (blk_later HD2.out hb3)
  have HB3 := Lib.hid (HB2.out.trans (hb3.mono HB2.out.size))
  clear hb3 HD2 HB2 HEn
  go_wp2_with fail
  refine (HSe.out w3).mono ?_
  rintro e w4 ⟨rfl, hb4⟩
  have HD4 : Hid (DocAt w4 db dEx) := Lib.hid (blk_later HD3.out hb4)
  have HB4 := Lib.hid (HB3.out.trans (hb4.mono HB3.out.size))
  clear hb4 HD3 HB3 HSe
  go_wp2_with fail
  refine (HOp.out w4).mono ?_
  rintro e w5 ⟨rfl, hb5⟩
  have HD5 : Hid (DocAt w5 db dEx) := Lib.hid (blk_later HD4.out hb5)
  have HB5 := Lib.hid (HB4.out.trans (hb5.mono HB4.out.size))
  have hdb5 : db < w5.heap.size := (Array.getElem?_eq_some_iff.1 HD5.out).1
  clear hb5 HD4 HB4 HOp
  obtain ⟨w6, hw6⟩ : ∃ w6, w6 = w5.alloc (.cells (docC dz) 30) := ⟨_, rfl⟩
  have hd6 : DocAt (w5.alloc (.cells (docC dz) 30)) w5.heap.size dz := blk_new _ _
  obtain ⟨hd7, hk7⟩ := doc_setRow hd6 dEx
  have hd7o : DocAt ((w5.alloc (.cells (docC dz) 30)).setRow w5.heap.size (docC dEx)) db dEx := blk_kp (blk_alloc HD5.out _) hk7 (by omega)
  have HB7 := Lib.hid ((HB5.out.alloc HB5.out.size (.cells (docC dz) 30)).trans (hk7.toBelow (HB5.out.alloc HB5.out.size _).size (fun i hi => by have := HB5.out.size; omega)))
  have HD6 := Lib.hid hd6
  have HD7 := Lib.hid hd7
  have HD7o := Lib.hid hd7o
  have hlen : (bEx.size : Int) = 45 := rfl
  have hE3 : (bEx.extract 0 3).toList = [4, 0, 1] := by decide +kernel
  have hE3' : ((bEx.extract 0 3).toList == [4, 0, 1]) = true := by decide +kernel
  have hEE : (bEx.toList == bEx.toList) = true := beq_self_eq_true _
  clear hd6 hd7 hk7 hd7o
  go_wp2_with (first | refine wpList_docst rfl _ _ rfl w5.heap.size dz dEx rfl rfl HD6.out ?_ | refine wpList_docg rfl _ rfl w5.heap.size dEx rfl HD7.out ?_ | refine wpList_docg rfl _ rfl db dEx rfl HD7o.out ?_ | fail)
  have hw6' := hw6
  simp only [docC, dz, sz] at hw6'
  rw [← hw6']
  clear hw6' hE3 hE3' hEE hlen
  rw [← hw6] at HB7
  clear HD6 HD7 HD7o hw6
  generalize w6.setRow w5.heap.size (docC dEx) = w7 at HB7 ⊢
  refine (HSm.out w7).mono ?_
  rintro e w8 ⟨rfl, hb8⟩
  have HB8 := Lib.hid (HB7.out.trans (hb8.mono HB7.out.size))
  clear hb8
  go_wp2_with fail
  go_ret
  exact ⟨rfl, HB8.out⟩
end Go.Proofs.YtmejjphliaiamaaGreatDoor
