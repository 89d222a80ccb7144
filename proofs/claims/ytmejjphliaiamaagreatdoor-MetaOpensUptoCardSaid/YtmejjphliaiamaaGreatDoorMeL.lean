import Derived.Test.YtmejjphliaiamaaGreatDoorMeJ
import Derived.Test.YtmejjphliaiamaaGreatDoorQuH
import Derived.BigRegion
import Derived.Deep.RegionHeld
import Derived.Test.YtmejjphliaiamaaGreatDoorMeH
set_option linter.unusedVariables false
set_option linter.unusedSimpArgs false
namespace Go.Proofs.YtmejjphliaiamaaGreatDoor
open Go Go.RowKit Go.Lib Go.Sort

/-! ### opened, without a set -/
set_option maxRecDepth 100000 in
theorem setidx_nil (f : Value) (w : World) : Calls Tryz.prog 123 #[.slice none 0 0, f] w fun e w' => e = .returned (.int .i64 (-1)) ∧ Below w.heap.size w w' := by
  go_enter Tryz.func123, Tryz.ntmps123
  go_wp2_with fail
  go_loopw [8] (fun i wr => i = .int .i64 0 ∧ w = wr) (fun i _ => 0)
  case atStart => exact ⟨rfl, rfl⟩
  case round =>
    obtain ⟨rfl, rfl⟩ := hrel
    go_wp2_with fail
    go_ret
    exact ⟨rfl, Below.refl _ _⟩
set_option maxRecDepth 100000 in
theorem setcon_nil (f : Value) (w : World) : Calls Tryz.prog 68 #[.slice none 0 0, f] w fun e w' => e = .returned (.bool false) ∧ Below w.heap.size w w' := by
  have HC := Lib.hid (setidx_nil f w)
  go_enter Tryz.func68, Tryz.ntmps68
  go_wp2_with fail
  refine HC.out.mono ?_
  rintro e w1 ⟨rfl, hb⟩
  have HB := Lib.hid hb
  clear hb
  go_wp2_with fail
  go_ret
  exact ⟨rfl, HB.out⟩
theorem doc_ret3 {fn : Func} {Q : Ending → World → Prop} (a : Act) (w : World) (b : Nat) (d : DV) (s : ByteArray) (e : Int) (h : DocAt w b d)
    (hf : fn.results = #[.cell 6 30, .tmp 7, .tmp 8])
    (ha : a.tmps[6]?.getD undef = .pointer (some ⟨b, 0, none⟩)) (hs : a.tmps[7]?.getD undef = .string s) (hc : a.tmps[8]?.getD undef = .int .i64 e) (hd : a.defers = []) (hQ : Q (.returned (.tuple #[.agg (docC d), .string s, .int .i64 e])) w) :
    bodyPost Tryz.prog fn Q Exit.ret a w := by
  refine bodyPost_ret (v := .tuple #[.agg (docC d), .string s, .int .i64 e]) ?_ hd hQ
  have hl : (loadVar 30 ⟨b, 0, none⟩).run Tryz.prog w = .ok (.agg (docC d)) w := run_loadVar_row w b _ _ (docC d) (0, 0) _ h docU rfl (docI d)
  simp [results, hf, ha, hs, hc, asAddr, hl]

set_option maxRecDepth 100000 in
set_option maxHeartbeats 4000000 in
theorem open_ok (s body : ByteArray) (L : List SigT) (k : Int) (dd : DV) (w : World) (hs : s.size ≤ 1000000000) (hu : usP s = ((body, L), 0)) (hk : dd.kind = k)
    (hdec : ∀ W, Calls Tryz.prog 11 #[.string body] W (DecPost 0 (fun d _ => d = dd) W)) :
    Calls Tryz.prog 23 #[.string s, .int .i64 k, .slice none 0 0] w fun e w' => e = .returned (.tuple #[.agg (docC dd), .string body, .int .i64 0]) ∧ Below w.heap.size w w' := by
  obtain ⟨w1, hw1⟩ : ∃ w1, w1 = w.alloc (.cells (docC dz) 30) := ⟨_, rfl⟩
  have ho1 : DocAt w1 w.heap.size dz := by rw [hw1]; exact blk_new _ _
  have hb1 : Below w.heap.size w w1 := by rw [hw1]; exact (Below.refl _ w).alloc (Nat.le_refl _) _
  have HO1 := Lib.hid ho1
  have HB1 := Lib.hid hb1
  have HU := unseal_any s w1 hs
  unfold UsPost at HU
  rw [hu] at HU
  have HUs := Lib.hid HU
  have HDec := Lib.hid hdec
  have HK := Lib.hid hk
  simp only [docC, dz, sz] at hw1
  clear ho1 hb1 HU hu hdec hk
  go_enter Tryz.func23, Tryz.ntmps23
  go_wp2_with fail
  rw [← hw1]
  clear hw1
  refine HUs.out.mono ?_
  rintro e w2 ⟨v, rfl, hown, hb2⟩
  have HO2 := Lib.hid (HO1.out.later hb2)
  have HB2 := Lib.hid (HB1.out.trans (hb2.mono HB1.out.size))
  obtain ⟨ao, cap, rfl, -, -, -⟩ := OwnL.form hown
  have hn2 : w2.heap.size ≠ w.heap.size := by have := (Array.getElem?_eq_some_iff.1 HO2.out).1; omega
  clear hb2 HUs HO1 HB1 hown
  have hy1 := blk_new w2 (.cells #[.string body] 9)
  have hy2 : ((w2.alloc (.cells #[.string body] 9)).alloc (.cells #[.slice ao L.length cap] 41)).heap[w2.heap.size]? = some (.cells #[.string body] 9 (0, 0)) := blk_alloc hy1 _
  have ho3 : DocAt ((w2.alloc (.cells #[.string body] 9)).alloc (.cells #[.slice ao L.length cap] 41)) w.heap.size dz := blk_alloc (blk_alloc HO2.out _) _
  have hb3 : Below w.heap.size w ((w2.alloc (.cells #[.string body] 9)).alloc (.cells #[.slice ao L.length cap] 41)) := (HB2.out.alloc HB2.out.size _).alloc (by rw [size_alloc]; have := HB2.out.size; omega) _
  go_wp2_with fail
  generalize (w2.alloc (.cells #[.string body] 9)).alloc (.cells #[.slice ao L.length cap] 41) = w3 at hy2 ho3 hb3 ⊢
  have HO3 := Lib.hid ho3
  have HB3 := Lib.hid hb3
  have HY3 := Lib.hid hy2
  clear hy1 hy2 ho3 hb3 HO2 HB2
  have hdc := HDec.out w3
  unfold DecPost at hdc
  refine hdc.mono ?_
  rintro e w4 ⟨d', rfl, hdd, hb4⟩
  obtain rfl : d' = dd := hdd
  have ho4 := HO3.out.later hb4
  have hy4 := blk_later HY3.out hb4
  have hB4 := HB3.out.trans (hb4.mono HB3.out.size)
  have hlt4 : w.heap.size < w4.heap.size := (Array.getElem?_eq_some_iff.1 ho4).1
  have hltb : w2.heap.size < w4.heap.size := (Array.getElem?_eq_some_iff.1 hy4).1
  obtain ⟨w5, hw5⟩ : ∃ w5, w5 = w4.alloc (.cells (docC dz) 30) := ⟨_, rfl⟩
  have hd5 : DocAt (w4.alloc (.cells (docC dz) 30)) w4.heap.size dz := blk_new _ _
  have hd5' : DocAt w5 w4.heap.size dz := hw5 ▸ hd5
  have ho5 : DocAt w5 w.heap.size dz := by rw [hw5]; exact blk_alloc ho4 _
  have hy5 : w5.heap[w2.heap.size]? = some (.cells #[.string body] 9 (0, 0)) := by rw [hw5]; exact blk_alloc hy4 _
  have hB5 : Below w.heap.size w w5 := by rw [hw5]; exact hB4.alloc hB4.size _
  obtain ⟨hd6, hk6⟩ := doc_setRow hd5' d'
  have ho6 := blk_kp ho5 hk6 (by omega)
  have hy6 := blk_kp hy5 hk6 (by omega)
  have hB6 := hB5.trans (hk6.toBelow hB5.size (fun i hi => by have := hB4.size; omega))
  have hd5l : DocAt (w4.alloc (.cells (docC dz) 30)) w4.heap.size dz := hd5
  have HD5 := Lib.hid hd5l
  simp only [docC, dz, sz] at hw5
  have c0 : (w5.setRow w4.heap.size (docC d')).cell? ⟨w4.heap.size, 0, none⟩ = some (.int .i64 d'.kind) := cell_of_blk hd6 0 (v := .int .i64 d'.kind) rfl
  have hkk : d'.kind = k := HK.out
  rw [hkk, hw5] at c0
  have HO6 := Lib.hid ho6
  have HY6 := Lib.hid hy6
  have HB6 := Lib.hid hB6
  have HD6 := Lib.hid hd6
  clear hb4 ho4 hy4 hB4 hd5 hd5' hd5l ho5 hy5 hB5 hk6 ho6 hy6 hB6 hd6 HO3 HB3 HY3 hdc HDec hkk
  go_wp2_with (first | refine wpList_docst rfl _ _ rfl w4.heap.size dz d' rfl rfl HD5.out ?_ | fail)
  rw [← hw5]
  clear hw5 c0 HD5
  generalize w5.setRow w4.heap.size (docC d') = w6 at HO6 HY6 HB6 HD6 ⊢
  refine (setcon_nil _ w6).mono ?_
  rintro e w7 ⟨rfl, hb7⟩
  have HO7 : Hid (DocAt w7 w.heap.size dz) := Lib.hid (blk_later HO6.out hb7)
  have hy7 := blk_later HY6.out hb7
  have HB7 := Lib.hid (HB6.out.trans (hb7.mono HB6.out.size))
  have HD7 : Hid (DocAt w7 w4.heap.size d') := Lib.hid (blk_later HD6.out hb7)
  have y0 := cell_of_blk hy7 0 (v := .string body) rfl
  have HO8 : Hid (DocAt w7.drew w.heap.size dz) := Lib.hid HO7.out
  have HD8 : Hid (DocAt w7.drew w4.heap.size d') := Lib.hid HD7.out
  have HB8 : Hid (Below w.heap.size w w7.drew) := Lib.hid (HB7.out.trans (Below.mono (below_drew (Below.refl _ _)) HB7.out.size))
  have y0' : w7.drew.cell? ⟨w2.heap.size, 0, none⟩ = some (.string body) := y0
  have y1 : (w7.drew.setRow w.heap.size (docC d')).cell? ⟨w2.heap.size, 0, none⟩ = some (.string body) := (cell_setRow_other w7.drew w.heap.size (docC d') _ hn2).trans y0'
  have HZ := Lib.hid (doc_setRow HO8.out d')
  have HD9 : Hid (DocAt (w7.drew.setRow w.heap.size (docC d')) w4.heap.size d') := Lib.hid (blk_kp HD8.out HZ.out.2 (by omega))
  clear hb7 hy7 HO6 HY6 HB6 HD6
  go_wp2_with fail
  refine wp_region_held_drew (S := fun W => DocAt W w4.heap.size d' ∧ W.cell? ⟨w2.heap.size, 0, none⟩ = some (.string body)) (by kernel_rfl) ⟨HD8.out, y0'⟩ (fun hHeld => ?_)
  refine wpAnyH_take (i := 0) (v := .agg (docC d')) rfl (by kernel_rfl) (by kernel_rfl) (by kernel_rfl) (fun _ _ _ h => h) (Or.inl ⟨by rfl, ?_⟩) hHeld ?_
  · intro W hW
    have hl : (loadVar 30 ⟨w4.heap.size, 0, none⟩).run Tryz.prog W = .ok (.agg (docC d')) W := run_loadVar_row W _ _ _ (docC d') (0, 0) _ hW.1 docU rfl (docI d')
    have hl2 : (Instr.loadAt 30 (.pointer (some ⟨w4.heap.size, 0, none⟩))).run Tryz.prog W = .ok (.agg (docC d')) W := by
      simp only [Instr.loadAt, Instr.sureAddr, Sem.run_bind, Sem.run_pure, Result.andThen_ok, hl]
    simp only [List.getElem_toArray, List.getElem_cons_zero]
    unfold execOp
    show (Sem.run Tryz.prog (do let v ← Instr.loadAt 30 (.pointer (some ⟨w4.heap.size, 0, none⟩)); pure (Next.value v)) W) = _
    simp only [Sem.run_bind, hl2, Result.andThen_ok, Sem.run_pure]
  try simp only [List.getElem_toArray, List.getElem_cons_zero, List.getElem_cons_succ, Act.put, List.setIfInBounds_toArray, List.set_cons_zero, List.set_cons_succ]
  refine wpAnyH_take (i := 1) (v := .string body) rfl (by kernel_rfl) (by kernel_rfl) (by kernel_rfl) (fun _ _ _ h => h) (Or.inl ⟨by rfl, ?_⟩) hHeld ?_
  · intro W hW
    have hl := hW.2
    go_simp
  try simp only [List.getElem_toArray, List.getElem_cons_zero, List.getElem_cons_succ, Act.put, List.setIfInBounds_toArray, List.set_cons_zero, List.set_cons_succ]
  refine wpAnyH_ready (rs := [2]) (by kernel_rfl) (by simp) ?_
  refine AllReadyH.cons rfl (fun K hK => ?_) AllReadyH.nil
  refine step_docst (by rfl) _ _ (by rfl) w.heap.size dz d' (by rfl) (by rfl) HO8.out ?_
  refine hK.out _ _ ⟨HD9.out, y1⟩ (fun hHeld2 => ?_)
  clear hK K hHeld
  try simp only [List.getElem_toArray, List.getElem_cons_zero, List.getElem_cons_succ, Act.put, List.setIfInBounds_toArray, List.set_cons_zero, List.set_cons_succ]
  refine wpAnyH_take (i := 3) (v := ?_) rfl (by kernel_rfl) (by kernel_rfl) (by kernel_rfl) (fun _ _ _ h => h) (Or.inl ⟨by rfl, ?_⟩) hHeld2 ?_
  rotate_left
  · (intro wq hSw; go_simp; try with_reducible rfl)
  try simp only [List.getElem_toArray, List.getElem_cons_zero, List.getElem_cons_succ, Act.put, List.setIfInBounds_toArray, List.set_cons_zero, List.set_cons_succ]
  refine wpAnyH_take (i := 4) (v := ?_) rfl (by kernel_rfl) (by kernel_rfl) (by kernel_rfl) (fun _ _ _ h => h) (Or.inl ⟨by rfl, ?_⟩) hHeld2 ?_
  rotate_left
  · (intro wq hSw; go_simp; try with_reducible rfl)
  try simp only [List.getElem_toArray, List.getElem_cons_zero, List.getElem_cons_succ, Act.put, List.setIfInBounds_toArray, List.set_cons_zero, List.set_cons_succ]
  refine wpAnyH_done (by kernel_rfl) ?_ _
  go_wp2_with fail
  refine doc_ret3 _ _ w.heap.size d' body 0 HZ.out.1 rfl rfl rfl rfl rfl ?_
  exact ⟨rfl, HB8.out.trans (HZ.out.2.toBelow HB8.out.size (fun i hi => by omega))⟩

/-! ### the document's first example -/
def mz32 : ByteArray := ⟨(List.replicate 32 0).toArray⟩
def dEx : DV := { dz with kind := 4, ver := 1, exp := 9, of := 1, hash := mz32 }
def bEx : ByteArray := ⟨#[4, 0, 1, 0, 0, 0, 0, 0, 0, 0, 9, 0, 1, 0, 0, 0, 0, 0, 0, 0, 0, 0, 0, 0, 0, 0, 0, 0, 0, 0, 0, 0, 0, 0, 0, 0, 0, 0, 0, 0, 0, 0, 0, 0, 0]⟩
theorem enc_ex : encP dEx (chk4 dEx) (lay4 dEx) = (bEx, 0) := by decide +kernel
theorem seal_ex : (sealP bEx []).2 = 0 := by decide +kernel
theorem dts_ex : dts bEx = dEx := by kernel_rfl
theorem kind_ex : (rA bEx).1 = 4 := by decide +kernel
theorem dec_ex : decE (ts2 (rC bEx).2).2 (chk4 (dts bEx)) = 0 := by decide +kernel
theorem mmake32 (w : World) : (Instr.makeSlice 47 (.int .i64 32) (.int .i64 32)).run Tryz.prog w = .ok (.slice (some ⟨w.heap.size, 0, none⟩) 32 32) (w.alloc (.cells (Array.replicate 32 (.int .u8 0)) 5)) := by kernel_rfl
theorem mzeros32_cells : strCells mz32 = List.replicate 32 (.int .u8 0) := by kernel_rfl
theorem mzeros32 (w : World) : OwnB (w.alloc (.cells (Array.replicate 32 (.int .u8 0)) 5)) w.heap.size (.slice (some ⟨w.heap.size, 0, none⟩) 32 32) mz32 := by
  refine ⟨by rw [mzeros32_cells]; rfl, .inr ⟨w.heap.size, 32, _, rfl, Nat.le_refl _, blk_new _ _, Nat.le_refl _, by unfold maxLen; omega, rfl, ?_⟩⟩
  rw [mzeros32_cells]
  rfl
theorem decode_ex (w : World) : Calls Tryz.prog 11 #[.string bEx] w (DecPost 0 (fun d _ => d = dEx) w) := by
  have h := decode4 bEx w (by decide) kind_ex
  rw [dec_ex, dts_ex] at h
  exact h
theorem encode_ex (w : World) : Calls Tryz.prog 9 #[.agg (docC dEx)] w fun e w' => e = .returned (.tuple #[.string bEx, .int .i64 0]) ∧ Below w.heap.size w w' := by
  have h := encode4 dEx w rfl (by unfold I64; decide) (by unfold I64; decide) (by unfold I64; decide) (by decide)
  rw [enc_ex] at h
  exact h
theorem setsz (w : World) : SetM w sz ([], 0) := ⟨rfl, rfl, fun i t h => by simp at h⟩
theorem same_ex (w : World) : Calls Tryz.prog 12 #[.agg (docC dEx), .agg (docC dEx)] w fun e w' => e = .returned (.bool true) ∧ Below w.heap.size w w' := by
  have h := samedoc_any dEx dEx (fun _ => true) [] [] w (by decide) (by decide) rfl rfl (fun i t h => by simp at h) (fun i t h => by simp at h) (fun (k : Nat) (s t : SV) (W : World) (hs : (setL dEx)[k]? = some s) (ht : (setL dEx)[k]? = some t) _ => by
    have h5 : ∀ (k : Nat) (s : SV), (setL dEx)[k]? = some s → s = sz := by
      intro k s hs
      have := List.mem_of_getElem? hs
      simp only [setL, List.mem_cons, List.not_mem_nil, or_false] at this
      rcases this with h | h | h | h | h <;> exact h
    obtain rfl := h5 k s hs
    obtain rfl := h5 k t ht
    exact sameset_any sz sz ([], 0) ([], 0) W (by decide) (by decide) (setsz W) (setsz W))
  have e : sameB dEx dEx (fun _ => true) [] [] = true := by decide +kernel
  rw [e] at h
  exact h

set_option maxRecDepth 100000 in
set_option maxHeartbeats 4000000 in
theorem seals_any (w : World) : Calls Tryz.prog 8 #[] w fun e w' => e = .returned (.bool true) ∧ Below w.heap.size w w' := by
  have hSe := fun W => seal_any bEx none [] 0 W (fun i f h => by simp at h) (by decide) (by decide)
  have hse2 : sealP bEx [] = ((sealP bEx []).1, 0) := Prod.ext rfl seal_ex
  have hus : usP (sealP bEx []).1 = ((bEx, []), 0) := us_back seal_ex
  have hsz : (sealP bEx []).1.size ≤ 1000000000 := by decide +kernel
  rw [hse2] at hSe
  generalize (sealP bEx []).1 = S at hSe hus hsz
  have hOp := fun W => open_ok S bEx [] 4 dEx W hsz hus rfl decode_ex
  have HSe := Lib.hid hSe
  have HOp := Lib.hid hOp
  have HEn := Lib.hid encode_ex
  have HSm := Lib.hid same_ex
  clear hSe hse2 hus hsz hOp
  have hmk := mmake32
  go_enter Tryz.func8, Tryz.ntmps8
  go_wp2_with fail
  rw [run_str (mzeros32 w)]
  simp only [Result.andThen]
  rw [Oper.upon_value]
  have HB0 := Lib.hid ((Below.refl w.heap.size w).alloc (Nat.le_refl _) (.cells (Array.replicate 32 (.int .u8 0)) 5))
  generalize w.alloc (.cells (Array.replicate 32 (.int .u8 0)) 5) = w0 at HB0 ⊢
  clear hmk
  obtain ⟨w1, hw1⟩ : ∃ w1, w1 = w0.alloc (.cells (docC dz) 30) := ⟨_, rfl⟩
  have hd1 : DocAt (w0.alloc (.cells (docC dz) 30)) w0.heap.size dz := blk_new _ _
  have hd1' : DocAt w1 w0.heap.size dz := hw1 ▸ hd1
  have hb1 : Below w.heap.size w w1 := by rw [hw1]; exact HB0.out.alloc HB0.out.size _
  obtain ⟨hd2, hk2⟩ := doc_setRow hd1' dEx
  have HD1 := Lib.hid hd1
  have HD2 := Lib.hid hd2
  have hd3 : DocAt ((w0.alloc (.cells (docC dz) 30)).setRow w0.heap.size (docC dEx)) w0.heap.size dEx := (doc_setRow hd1 dEx).1
  have HD3 := Lib.hid hd3
  have HB2 := Lib.hid (hb1.trans (hk2.toBelow hb1.size (fun i hi => by have := HB0.out.size; omega)))
  simp only [docC, dz, sz] at hw1
  clear hd1 hd1' hb1 hd2 hk2 hd3
  go_wp2_with (first | refine wpList_docst rfl _ _ rfl w0.heap.size dz dEx rfl rfl HD1.out ?_ | refine wpList_doc rfl _ rfl w0.heap.size dEx rfl HD3.out ?_ | fail)
  rw [← hw1]
  clear hw1 HD1 HD3
  generalize w1.setRow w0.heap.size (docC dEx) = w2 at HD2 HB2 ⊢
  generalize w0.heap.size = db at HD2 ⊢
  refine (HEn.out w2).mono ?_
  rintro e w3 ⟨rfl, hb3⟩
  have HD3 : Hid (DocAt w3 db dEx) := Lib.hid (blk_later HD2.out hb3)
  have HB3 := Lib.hid (HB2.out.trans (hb3.mono HB2.out.size))
  clear hb3 HD2 HB2 HEn
  go_wp2_with fail
  refine (HSe.out w3).mono ?_
  rintro e w4 ⟨rfl, hb4⟩
  have HD4 : Hid (DocAt w4 db dEx) := Lib.hid (blk_later HD3.out hb4)
  have HB4 := Lib.hid (HB3.out.trans (hb4.mono HB3.out.size))
  clear hb4 HD3 HB3 HSe
  go_wp2_with fail
  refine (HOp.out w4).mono ?_
  rintro e w5 ⟨rfl, hb5⟩
  have HD5 : Hid (DocAt w5 db dEx) := Lib.hid (blk_later HD4.out hb5)
  have HB5 := Lib.hid (HB4.out.trans (hb5.mono HB4.out.size))
  have hdb5 : db < w5.heap.size := (Array.getElem?_eq_some_iff.1 HD5.out).1
  clear hb5 HD4 HB4 HOp
  obtain ⟨w6, hw6⟩ : ∃ w6, w6 = w5.alloc (.cells (docC dz) 30) := ⟨_, rfl⟩
  have hd6 : DocAt (w5.alloc (.cells (docC dz) 30)) w5.heap.size dz := blk_new _ _
  obtain ⟨hd7, hk7⟩ := doc_setRow hd6 dEx
  have hd7o : DocAt ((w5.alloc (.cells (docC dz) 30)).setRow w5.heap.size (docC dEx)) db dEx := blk_kp (blk_alloc HD5.out _) hk7 (by omega)
  have HB7 := Lib.hid ((HB5.out.alloc HB5.out.size (.cells (docC dz) 30)).trans (hk7.toBelow (HB5.out.alloc HB5.out.size _).size (fun i hi => by have := HB5.out.size; omega)))
  have HD6 := Lib.hid hd6
  have HD7 := Lib.hid hd7
  have HD7o := Lib.hid hd7o
  have hlen : (bEx.size : Int) = 45 := rfl
  have hE3 : (bEx.extract 0 3).toList = [4, 0, 1] := by decide +kernel
  have hE3' : ((bEx.extract 0 3).toList == [4, 0, 1]) = true := by decide +kernel
  have hEE : (bEx.toList == bEx.toList) = true := beq_self_eq_true _
  clear hd6 hd7 hk7 hd7o
  go_wp2_with (first | refine wpList_docst rfl _ _ rfl w5.heap.size dz dEx rfl rfl HD6.out ?_ | refine wpList_docg rfl _ rfl w5.heap.size dEx rfl HD7.out ?_ | refine wpList_docg rfl _ rfl db dEx rfl HD7o.out ?_ | fail)
  have hw6' := hw6
  simp only [docC, dz, sz] at hw6'
  rw [← hw6']
  clear hw6' hE3 hE3' hEE hlen
  rw [← hw6] at HB7
  clear HD6 HD7 HD7o hw6
  generalize w6.setRow w5.heap.size (docC dEx) = w7 at HB7 ⊢
  refine (HSm.out w7).mono ?_
  rintro e w8 ⟨rfl, hb8⟩
  have HB8 := Lib.hid (HB7.out.trans (hb8.mono HB7.out.size))
  clear hb8
  go_wp2_with fail
  go_ret
  exact ⟨rfl, HB8.out⟩
end Go.Proofs.YtmejjphliaiamaaGreatDoor
