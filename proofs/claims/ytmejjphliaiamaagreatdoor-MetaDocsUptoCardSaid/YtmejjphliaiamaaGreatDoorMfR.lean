import Derived.Test.YtmejjphliaiamaaGreatDoorMeH
set_option linter.unusedVariables false
set_option linter.unusedSimpArgs false
namespace Go.Proofs.YtmejjphliaiamaaGreatDoor
open Go Go.RowKit Go.Lib

/-! ### a document of no kind -/
set_option maxRecDepth 100000 in
set_option maxHeartbeats 4000000 in
theorem check_none (d : DV) (w : World) (hk : ¬ (1 ≤ d.kind ∧ d.kind ≤ 4)) :
    Calls Tryz.prog 10 #[docV d] w fun e w' => e = .returned (.int .i64 1) ∧ Below w.heap.size w w' := by
  have hd : DocAt (w.alloc (.cells (docC d) 30)) w.heap.size d := blk_new _ _
  have hB : Below w.heap.size w (w.alloc (.cells (docC d) 30)) := (Below.refl _ w).alloc (Nat.le_refl _) _
  obtain ⟨w1, hw1⟩ : ∃ w1, w1 = w.alloc (.cells (docC d) 30) := ⟨_, rfl⟩
  rw [← hw1] at hd hB
  unfold docV
  have HB := Lib.hid hB
  have HF := Lib.hid (forms_none d.kind w1 hk)
  have c0 : (w.alloc (.cells (docC d) 30)).cell? ⟨w.heap.size, 0, none⟩ = some (.int .i64 d.kind) := by rw [← hw1]; exact cell_of_blk hd 0 (v := .int .i64 d.kind) rfl
  clear hd hB hk
  go_enter Tryz.func10, Tryz.ntmps10
  go_wp2_with fail
  rw [← hw1]
  clear hw1 c0
  refine HF.out.mono ?_
  rintro e w2 ⟨rfl, hb2⟩
  have HB2 := Lib.hid ((HB.out.trans (hb2.mono HB.out.size)).alloc (Nat.le_trans HB.out.size hb2.size) (.cells #[.nilFunc, .nilFunc, .nilFunc, .nilFunc] 82))
  clear hb2 HB HF
  obtain ⟨n0, f0⟩ := form_new w2 0 (by decide)
  obtain ⟨n1, f1⟩ := form_new w2 1 (by decide)
  obtain ⟨n2, f2⟩ := form_new w2 2 (by decide)
  obtain ⟨n3, f3⟩ := form_new w2 3 (by decide)
  go_wp2_with fail
  go_ret
  exact ⟨rfl, HB2.out⟩
set_option maxRecDepth 100000 in
set_option maxHeartbeats 4000000 in
theorem encode_none (d : DV) (w : World) (hk : ¬ (1 ≤ d.kind ∧ d.kind ≤ 4)) :
    Calls Tryz.prog 9 #[docV d] w fun e w' => e = .returned (.tuple #[.string ⟨#[]⟩, .int .i64 1]) ∧ Below w.heap.size w w' := by
  have hd : DocAt (w.alloc (.cells (docC d) 30)) w.heap.size d := blk_new _ _
  have hB : Below w.heap.size w (w.alloc (.cells (docC d) 30)) := (Below.refl _ w).alloc (Nat.le_refl _) _
  obtain ⟨w1, hw1⟩ : ∃ w1, w1 = w.alloc (.cells (docC d) 30) := ⟨_, rfl⟩
  rw [← hw1] at hd hB
  have HC := check_none d w1 hk
  unfold docV at HC ⊢
  have HC2 := Lib.hid HC
  have hD0 : DocAt (w.alloc (.cells (docC d) 30)) w.heap.size d := hw1 ▸ hd
  have HD0 := Lib.hid hD0
  have HB := Lib.hid hB
  clear hd hB hD0 HC hk
  go_enter Tryz.func9, Tryz.ntmps9
  go_wp2_with (first | refine wpList_doc rfl _ rfl w.heap.size d rfl HD0.out ?_ | fail)
  rw [← hw1]
  clear hw1 HD0
  refine HC2.out.mono ?_
  rintro e w2 ⟨rfl, hb2⟩
  have HB2 := Lib.hid (HB.out.trans (hb2.mono HB.out.size))
  clear hb2 HB HC2
  go_wp2_with fail
  go_ret2
  exact ⟨rfl, HB2.out⟩

set_option maxRecDepth 100000 in
set_option maxHeartbeats 4000000 in
theorem decode_none (s : ByteArray) (w : World) (hs : s.size ≤ 1000000000) (hk : ¬ (1 ≤ (rA s).1 ∧ (rA s).1 ≤ 4)) :
    Calls Tryz.prog 11 #[.string s] w (DecPost 3 (fun _ _ => False) w) := by
  obtain ⟨z1, z2, z3⟩ := rC_size s
  have hA : rNum (s, 0) 1 = rA s := rfl
  have hB : rNum (rA s).2 2 = rB s := rfl
  have hC : rEight (rB s).2 = rC s := rfl
  have hH : dHead s = { dz with kind := (rA s).1, ver := (rB s).1, exp := (rC s).1 } := rfl
  have HF := Lib.hid (fun W => forms_none (rA s).1 W hk)
  have HCk := Lib.hid (fun W => check_none (dHead s) W hk)
  unfold docV at HCk
  generalize rA s = A at *
  generalize rB s = B at *
  generalize rC s = C at *
  generalize dHead s = d0 at *
  have HA := Lib.hid hA
  have HB := Lib.hid hB
  have HC := Lib.hid hC
  have HH := Lib.hid hH
  clear hA hB hC hH hk
  unfold DecPost
  obtain ⟨w1, hw1⟩ : ∃ w1, w1 = w.alloc (.cells (docC dz) 30) := ⟨_, rfl⟩
  have ho1 : DocAt w1 w.heap.size dz := by rw [hw1]; exact blk_new _ _
  have hb1 : Below w.heap.size w w1 := by rw [hw1]; exact (Below.refl _ w).alloc (Nat.le_refl _) _
  have hz1 : w1.heap.size = w.heap.size + 1 := by rw [hw1, size_alloc]
  simp only [docC, dz, sz] at hw1
  go_enter Tryz.func11, Tryz.ntmps11
  go_wp2_with fail
  rw [← hw1]
  clear hw1
  refine (read_any s w1).mono ?_
  rintro e w2 ⟨rfl, hw2⟩
  have ho2 : DocAt w2 w.heap.size dz := by rw [hw2]; exact blk_alloc ho1 _
  have hr2 : Rdr 136 w2 w1.heap.size (s, 0) := by rw [hw2]; exact rdr_new _ w1 s
  have hb2 : Below w.heap.size w w2 := by rw [hw2]; exact hb1.alloc hb1.size _
  have hz2 : w2.heap.size = w.heap.size + 2 := by rw [hw2, size_alloc, hz1]
  clear hw2 ho1 hb1
  rw [hz1] at hr2 ⊢
  have HO2 := Lib.hid ho2
  have HR2 := Lib.hid hr2
  have HB2 := Lib.hid hb2
  clear ho2 hr2 hb2
  go_wp2_with fail
  have h3 := r1_any (w.heap.size + 1) (s, 0) w2 (by show s.size ≤ _; omega) HR2.out
  rw [HA.out] at h3
  refine h3.mono ?_
  rintro e w3 ⟨rfl, k3⟩
  have ho3 : DocAt w3 w.heap.size dz := blk_kp HO2.out k3.2 (by omega)
  have hb3 : Below w.heap.size w w3 := HB2.out.trans (k3.2.toBelow HB2.out.size (fun i hi => by omega))
  have hz3 : w.heap.size + 2 ≤ w3.heap.size := by have := k3.2.size; omega
  obtain ⟨w4, hw4⟩ : ∃ w4, w4 = w3.alloc (.cells (docC dz) 30) := ⟨_, rfl⟩
  have hd4 : DocAt (w3.alloc (.cells (docC dz) 30)) w3.heap.size dz := blk_new _ _
  have H4 : DcB w w4 (w.heap.size + 1) w3.heap.size A.2 dz := by
    rw [hw4]
    exact ⟨blk_alloc ho3 _, blk_alloc k3.1 _, hd4, hb3.alloc hb3.size _, by omega, by omega⟩
  have H5 := H4.set (doc_setRow H4.doc (d1K A.1))
  have HD4 := Lib.hid hd4
  have HW5 := Lib.hid H5
  simp only [docC, dz, sz] at hw4
  clear h3 k3 ho3 hb3 hd4 H4 H5 HO2 HR2 HB2 HA
  go_wp2_with (first | refine wpList_docst rfl _ _ rfl w3.heap.size dz (d1K A.1) rfl rfl HD4.out ?_ | fail)
  rw [← hw4]
  clear hw4 HD4
  generalize w4.setRow w3.heap.size (docC (d1K A.1)) = w5 at HW5 ⊢
  generalize w3.heap.size = db at HW5 ⊢
  have h6 := r2_any (w.heap.size + 1) A.2 w5 (by omega) HW5.out.rd
  rw [HB.out] at h6
  refine h6.mono ?_
  rintro e w6 ⟨rfl, k6⟩
  have H6 := HW5.out.read k6
  have c1 := cell_of_blk H6.doc 1 (v := .int .i64 0) rfl
  have f1 := free_of_blk H6.doc 1
  have HW7 := Lib.hid (H6.ver B.1)
  clear h6 k6 H6 HW5 HB
  go_wp2_with fail
  clear c1 f1
  generalize w6.setCell ⟨db, 1, none⟩ (.int .i64 B.1) = w7 at HW7 ⊢
  have h8 := r8_any (w.heap.size + 1) B.2 w7 (by omega) HW7.out.rd
  rw [HC.out] at h8
  refine h8.mono ?_
  rintro e w8 ⟨rfl, k8⟩
  have H8 := HW7.out.read k8
  have c2 := cell_of_blk H8.doc 2 (v := .int .i64 0) rfl
  have f2 := free_of_blk H8.doc 2
  have HW9 := Lib.hid (H8.exp C.1)
  have c0 : (w8.setCell ⟨db, 2, none⟩ (.int .i64 C.1)).cell? ⟨db, 0, none⟩ = some (.int .i64 A.1) := cell_of_blk HW9.out.doc 0 (v := .int .i64 A.1) rfl
  clear h8 k8 H8 HW7 HC
  go_wp2_with fail
  clear c2 f2 c0
  generalize w8.setCell ⟨db, 2, none⟩ (.int .i64 C.1) = w9 at HW9 ⊢
  refine (HF.out w9).mono ?_
  rintro e w10 ⟨rfl, hb10⟩
  have H10 := HW9.out.later hb10
  have H10' : DcB w w10 (w.heap.size + 1) db C.2 d0 := by rw [HH.out]; exact H10
  obtain ⟨w11, hw11⟩ : ∃ w11, w11 = w10.alloc (.cells #[.nilFunc, .nilFunc, .nilFunc, .nilFunc] 82) := ⟨_, rfl⟩
  have HW12 : Hid (DcB w w11 (w.heap.size + 1) db C.2 d0) := Lib.hid (by rw [hw11]; exact H10'.later ((Below.refl _ w10).alloc (Nat.le_refl _) _))
  obtain ⟨n0, f0⟩ := form_new w10 0 (by decide)
  obtain ⟨n1, f1⟩ := form_new w10 1 (by decide)
  obtain ⟨n2, f2⟩ := form_new w10 2 (by decide)
  obtain ⟨n3, f3⟩ := form_new w10 3 (by decide)
  clear hb10 H10 H10' HW9 HF HH
  go_wp2_with fail
  rw [← hw11]
  clear hw11 n0 n1 n2 n3 f0 f1 f2 f3
  refine (rend_any (w.heap.size + 1) C.2 w11 (by omega) HW12.out.rd).mono ?_
  rintro e w13 ⟨rfl, k13⟩
  have HW13 := Lib.hid (HW12.out.read k13)
  clear k13 HW12
  generalize rEnd C.2 = r5 at HW13 ⊢
  by_cases h0 : r5.2 = 0
  case neg =>
    have b1 : (r5.2 == 0) = false := beq_eq_false_iff_ne.2 h0
    have b2 : (r5.2 != 0) = true := by rw [bne, b1]; rfl
    have HD := Lib.hid (doc_setRow HW13.out.out dz)
    clear h0
    go_wp2_with (first | refine wpList_docst rfl _ _ rfl w.heap.size dz dz rfl rfl HW13.out.out ?_ | fail)
    refine doc_ret _ _ w.heap.size dz 3 HD.out.1 rfl rfl rfl rfl ?_
    exact ⟨dz, rfl, rfl, HW13.out.below.trans (HD.out.2.toBelow HW13.out.below.size (fun i hi => by omega))⟩
  case pos =>
    have b1 : (r5.2 == 0) = true := beq_iff_eq.2 h0
    have b2 : (r5.2 != 0) = false := by rw [bne, b1]; rfl
    have HCC := Lib.hid (HCk.out w13)
    clear HCk
    go_wp2_with (first | refine wpList_docg rfl _ rfl db d0 rfl HW13.out.doc ?_ | fail)
    refine HCC.out.mono ?_
    rintro e w14 ⟨rfl, hb14⟩
    have HW14 := Lib.hid (HW13.out.later hb14)
    clear hb14 HW13 HCC
    have HD := Lib.hid (doc_setRow HW14.out.out dz)
    clear h0
    go_wp2_with (first | refine wpList_docst rfl _ _ rfl w.heap.size dz dz rfl rfl HW14.out.out ?_ | fail)
    refine doc_ret _ _ w.heap.size dz 3 HD.out.1 rfl rfl rfl rfl ?_
    exact ⟨dz, rfl, rfl, HW14.out.below.trans (HD.out.2.toBelow HW14.out.below.size (fun i hi => by omega))⟩
end Go.Proofs.YtmejjphliaiamaaGreatDoor
