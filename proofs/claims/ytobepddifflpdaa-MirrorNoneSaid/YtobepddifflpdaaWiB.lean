import Derived.Test.YtobepddifflpdaaWiA
set_option linter.unusedVariables false
namespace Go.Proofs.Ytobepddifflpdaa
open Go Go.RowKit Go.Lib

set_option maxRecDepth 100000 in
set_option maxHeartbeats 1000000 in
theorem refreadask_any (s : ByteArray) (w : World) (hs : s.size ≤ 9223372036854775807) :
    Calls Try.prog 29 #[.string s] w fun e w' => e = .returned (askV s) ∧ Below w.heap.size w w' := by
  obtain ⟨z1, z2, z3, z4, z5⟩ := ask_sizes s
  go_enter Try.func29, Try.ntmps29
  go_wp2_with fail
  refine (qread_any s _).mono ?_
  rintro e w0 ⟨rfl, hw1⟩
  have h1 : Rdr 106 w0 (w.heap.size + 1) (s, 0) := by rw [hw1]; exact blk_new2 _ _ _
  have hb0 : AskAt w0 w.heap.size 0 ⟨#[]⟩ 0 0 := by rw [hw1]; exact blk_new1 _ _ _
  have hB1 : Below w.heap.size w w0 := by rw [hw1]; exact ((Below.refl _ _).alloc (Nat.le_refl _) _).alloc (by rw [size_alloc]; omega) _
  have HR0 := Lib.hid h1
  have HB0 := Lib.hid hb0
  have HK0 := Lib.hid hB1
  clear hw1 h1 hb0 hB1
  go_wp2_with fail
  refine (qnum_any _ _ 1 _ (by decide) (by show s.size ≤ _; omega) HR0.out).mono ?_
  rw [qNum_small _ (by decide)]
  rintro e w1 ⟨rfl, hP⟩
  have R1 : Rdr 106 w1 (w.heap.size + 1) (ask1 s).2 := hP.1
  have B1 : AskAt w1 w.heap.size 0 ⟨#[]⟩ 0 0 := blk_kp HB0.out hP.2 (by omega)
  have K1 : Below w.heap.size w w1 := HK0.out.trans (hP.2.toBelow HK0.out.size (by intro i hi; subst hi; omega))
  have e1 : (rNum (s, 0) ((1 : Nat) : Int)).1 = (ask1 s).1 := rfl
  rw [e1]
  have hlt1 : w.heap.size + 1 < w1.heap.size := (Array.getElem?_eq_some_iff.1 R1).1
  have HR1 : Hid (Rdr 106 (w1.alloc (.cells #[.int .i64 0, .string ⟨#[]⟩, .int .i64 0, .int .i64 0] 33)) (w.heap.size + 1) (ask1 s).2) := Lib.hid (blk_alloc R1 _)
  have HB1 : Hid (AskAt (w1.alloc (.cells #[.int .i64 0, .string ⟨#[]⟩, .int .i64 0, .int .i64 0] 33)) w.heap.size 0 ⟨#[]⟩ 0 0) := Lib.hid (blk_alloc B1 _)
  have HA1 : Hid (AskAt (w1.alloc (.cells #[.int .i64 0, .string ⟨#[]⟩, .int .i64 0, .int .i64 0] 33)) w1.heap.size 0 ⟨#[]⟩ 0 0) := Lib.hid (blk_new _ _)
  have HK1 : Hid (Below w.heap.size w (w1.alloc (.cells #[.int .i64 0, .string ⟨#[]⟩, .int .i64 0, .int .i64 0] 33))) := Lib.hid (K1.alloc K1.size _)
  clear hP e1 HB0 HK0 HR0 R1 B1 K1
  go_wp2_with fail
  generalize w1.alloc (.cells #[.int .i64 0, .string ⟨#[]⟩, .int .i64 0, .int .i64 0] 33) = w1b at HR1 HB1 HA1 HK1 ⊢
  generalize w1.heap.size = ab at HA1 hlt1 ⊢
  refine (qnum_any _ _ 2 _ (by decide) (by omega) HR1.out).mono ?_
  rw [qNum_small _ (by decide)]
  rintro e w2a ⟨rfl, hP⟩
  have R2 : Rdr 106 w2a (w.heap.size + 1) (ask2 s).2 := hP.1
  have B2 : AskAt w2a w.heap.size 0 ⟨#[]⟩ 0 0 := blk_kp HB1.out hP.2 (by omega)
  have A2 : AskAt w2a ab 0 ⟨#[]⟩ 0 0 := blk_kp HA1.out hP.2 (by omega)
  have K2 : Below w.heap.size w w2a := HK1.out.trans (hP.2.toBelow HK1.out.size (by intro i hi; subst hi; omega))
  have e1 : (rNum (ask1 s).2 ((2 : Nat) : Int)).1 = (ask2 s).1 := rfl
  rw [e1]
  have k0 := A2.cells.1
  have f0 := A2.cells.2 0
  clear hP e1 HB1 HA1 HK1 HR1
  go_wp2_with fail
  have hR : Hid (Rdr 106 (w2a.setCell ⟨ab, 0, none⟩ (.int .i64 (ask2 s).1)) (w.heap.size + 1) (ask2 s).2) := Lib.hid (blk_set_other R2 (by omega) _)
  have hA : Hid (AskAt (w2a.setCell ⟨ab, 0, none⟩ (.int .i64 (ask2 s).1)) ab (ask2 s).1 ⟨#[]⟩ 0 0) := Lib.hid (blk_set A2 _)
  have hB : Hid (AskAt (w2a.setCell ⟨ab, 0, none⟩ (.int .i64 (ask2 s).1)) w.heap.size 0 ⟨#[]⟩ 0 0) := Lib.hid (blk_set_other B2 (by omega) _)
  have hK : Hid (Below w.heap.size w (w2a.setCell ⟨ab, 0, none⟩ (.int .i64 (ask2 s).1))) := Lib.hid (K2.setCell (p := ⟨ab, 0, none⟩) (by show w.heap.size ≤ ab; omega) _)
  clear k0 f0 R2 A2 B2 K2
  generalize w2a.setCell ⟨ab, 0, none⟩ (.int .i64 (ask2 s).1) = w2 at hR hA hB hK ⊢
  have HR2 := Lib.hid hR.out
  have HA2 := Lib.hid hA.out
  have HB2 := Lib.hid hB.out
  have HK2 := Lib.hid hK.out
  clear hR hA hB hK
  go_wp2_with fail
  refine (qtxt_any _ _ 64 _ (by decide) (by omega) HR2.out).mono ?_
  rintro e w3a ⟨rfl, hP⟩
  have R3 : Rdr 106 w3a (w.heap.size + 1) (ask3 s).2 := hP.1
  have B3 : AskAt w3a w.heap.size 0 ⟨#[]⟩ 0 0 := blk_kp HB2.out hP.2 (by omega)
  have A3 : AskAt w3a ab (ask2 s).1 ⟨#[]⟩ 0 0 := blk_kp HA2.out hP.2 (by omega)
  have K3 : Below w.heap.size w w3a := HK2.out.trans (hP.2.toBelow HK2.out.size (by intro i hi; subst hi; omega))
  have e1 : (rTxt (ask2 s).2 64).1 = (ask3 s).1 := rfl
  rw [e1]
  have k0 := A3.cells.1
  have f0 := A3.cells.2 1
  clear hP e1 HB2 HA2 HK2 HR2
  go_wp2_with fail
  have hR : Hid (Rdr 106 (w3a.setCell ⟨ab, 1, none⟩ (.string (ask3 s).1)) (w.heap.size + 1) (ask3 s).2) := Lib.hid (blk_set_other R3 (by omega) _)
  have hA : Hid (AskAt (w3a.setCell ⟨ab, 1, none⟩ (.string (ask3 s).1)) ab (ask2 s).1 (ask3 s).1 0 0) := Lib.hid (blk_set A3 _)
  have hB : Hid (AskAt (w3a.setCell ⟨ab, 1, none⟩ (.string (ask3 s).1)) w.heap.size 0 ⟨#[]⟩ 0 0) := Lib.hid (blk_set_other B3 (by omega) _)
  have hK : Hid (Below w.heap.size w (w3a.setCell ⟨ab, 1, none⟩ (.string (ask3 s).1))) := Lib.hid (K3.setCell (p := ⟨ab, 1, none⟩) (by show w.heap.size ≤ ab; omega) _)
  clear k0 f0 R3 A3 B3 K3
  generalize w3a.setCell ⟨ab, 1, none⟩ (.string (ask3 s).1) = w3 at hR hA hB hK ⊢
  have HR3 := Lib.hid hR.out
  have HA3 := Lib.hid hA.out
  have HB3 := Lib.hid hB.out
  have HK3 := Lib.hid hK.out
  clear hR hA hB hK
  go_wp2_with fail
  refine (qnum_any _ _ 4 _ (by decide) (by omega) HR3.out).mono ?_
  rw [qNum_small _ (by decide)]
  rintro e w4a ⟨rfl, hP⟩
  have R4 : Rdr 106 w4a (w.heap.size + 1) (ask4 s).2 := hP.1
  have B4 : AskAt w4a w.heap.size 0 ⟨#[]⟩ 0 0 := blk_kp HB3.out hP.2 (by omega)
  have A4 : AskAt w4a ab (ask2 s).1 (ask3 s).1 0 0 := blk_kp HA3.out hP.2 (by omega)
  have K4 : Below w.heap.size w w4a := HK3.out.trans (hP.2.toBelow HK3.out.size (by intro i hi; subst hi; omega))
  have e1 : (rNum (ask3 s).2 ((4 : Nat) : Int)).1 = (ask4 s).1 := rfl
  rw [e1]
  have k0 := A4.cells.1
  have f0 := A4.cells.2 2
  clear hP e1 HB3 HA3 HK3 HR3
  go_wp2_with fail
  have hR : Hid (Rdr 106 (w4a.setCell ⟨ab, 2, none⟩ (.int .i64 (ask4 s).1)) (w.heap.size + 1) (ask4 s).2) := Lib.hid (blk_set_other R4 (by omega) _)
  have hA : Hid (AskAt (w4a.setCell ⟨ab, 2, none⟩ (.int .i64 (ask4 s).1)) ab (ask2 s).1 (ask3 s).1 (ask4 s).1 0) := Lib.hid (blk_set A4 _)
  have hB : Hid (AskAt (w4a.setCell ⟨ab, 2, none⟩ (.int .i64 (ask4 s).1)) w.heap.size 0 ⟨#[]⟩ 0 0) := Lib.hid (blk_set_other B4 (by omega) _)
  have hK : Hid (Below w.heap.size w (w4a.setCell ⟨ab, 2, none⟩ (.int .i64 (ask4 s).1))) := Lib.hid (K4.setCell (p := ⟨ab, 2, none⟩) (by show w.heap.size ≤ ab; omega) _)
  clear k0 f0 R4 A4 B4 K4
  generalize w4a.setCell ⟨ab, 2, none⟩ (.int .i64 (ask4 s).1) = w4 at hR hA hB hK ⊢
  have HR4 := Lib.hid hR.out
  have HA4 := Lib.hid hA.out
  have HB4 := Lib.hid hB.out
  have HK4 := Lib.hid hK.out
  clear hR hA hB hK
  go_wp2_with fail
  refine (qnum_any _ _ 2 _ (by decide) (by omega) HR4.out).mono ?_
  rw [qNum_small _ (by decide)]
  rintro e w5a ⟨rfl, hP⟩
  have R5 : Rdr 106 w5a (w.heap.size + 1) (ask5 s).2 := hP.1
  have B5 : AskAt w5a w.heap.size 0 ⟨#[]⟩ 0 0 := blk_kp HB4.out hP.2 (by omega)
  have A5 : AskAt w5a ab (ask2 s).1 (ask3 s).1 (ask4 s).1 0 := blk_kp HA4.out hP.2 (by omega)
  have K5 : Below w.heap.size w w5a := HK4.out.trans (hP.2.toBelow HK4.out.size (by intro i hi; subst hi; omega))
  have e1 : (rNum (ask4 s).2 ((2 : Nat) : Int)).1 = (ask5 s).1 := rfl
  rw [e1]
  have k0 := A5.cells.1
  have f0 := A5.cells.2 3
  clear hP e1 HB4 HA4 HK4 HR4
  go_wp2_with fail
  have hR : Hid (Rdr 106 (w5a.setCell ⟨ab, 3, none⟩ (.int .i64 (ask5 s).1)) (w.heap.size + 1) (ask5 s).2) := Lib.hid (blk_set_other R5 (by omega) _)
  have hA : Hid (AskAt (w5a.setCell ⟨ab, 3, none⟩ (.int .i64 (ask5 s).1)) ab (ask2 s).1 (ask3 s).1 (ask4 s).1 (ask5 s).1) := Lib.hid (blk_set A5 _)
  have hB : Hid (AskAt (w5a.setCell ⟨ab, 3, none⟩ (.int .i64 (ask5 s).1)) w.heap.size 0 ⟨#[]⟩ 0 0) := Lib.hid (blk_set_other B5 (by omega) _)
  have hK : Hid (Below w.heap.size w (w5a.setCell ⟨ab, 3, none⟩ (.int .i64 (ask5 s).1))) := Lib.hid (K5.setCell (p := ⟨ab, 3, none⟩) (by show w.heap.size ≤ ab; omega) _)
  clear k0 f0 R5 A5 B5 K5
  generalize w5a.setCell ⟨ab, 3, none⟩ (.int .i64 (ask5 s).1) = w5 at hR hA hB hK ⊢
  have HR5 := Lib.hid hR.out
  have HA5 := Lib.hid hA.out
  have HB5 := Lib.hid hB.out
  have HK5 := Lib.hid hK.out
  clear hR hA hB hK
  go_wp2_with fail
  refine (qend_any _ _ _ (by omega) HR5.out).mono ?_
  rintro e w7 ⟨rfl, hP⟩
  have B7 : AskAt w7 w.heap.size 0 ⟨#[]⟩ 0 0 := blk_kp HB5.out hP.2 (by omega)
  have A7 : AskAt w7 ab (ask2 s).1 (ask3 s).1 (ask4 s).1 (ask5 s).1 := blk_kp HA5.out hP.2 (by omega)
  have K7 : Below w.heap.size w w7 := HK5.out.trans (hP.2.toBelow HK5.out.size (by intro i hi; subst hi; omega))
  obtain ⟨⟨c0, c1, c2, c3⟩, -⟩ := A7.cells
  obtain ⟨⟨d0, d1, d2, d3⟩, df⟩ := B7.cells
  have df0 := df 0
  have df1 := df 1
  have df2 := df 2
  have df3 := df 3
  have HB7 := Lib.hid B7
  have HK7 := Lib.hid K7
  have e1 : (rEnd (ask5 s).2).2 = (ask6 s).2 := rfl
  rw [e1]
  clear hP B7 A7 K7 e1 HB5 HK5 HR5 HA5 df z1 z2 z3 z4 z5
  by_cases g1 : (ask6 s).2 ≠ 0
  · have hb1 : ((ask6 s).2 == 0) = false := beq_eq_false_iff_ne.2 g1
    have hv : askV s = .tuple #[.agg #[.int .i64 0, .string ⟨#[]⟩, .int .i64 0, .int .i64 0], .int .i64 3] := if_pos (.inl g1)
    have HV := Lib.hid hv
    clear hv
    go_wp2_with fail
    exact ask_ret s _ _ w _ 0 ⟨#[]⟩ 0 0 3 (HB7.out.set4 _ _ _ _) HV.out (below_set4 HK7.out (Nat.le_refl _) _ _ _ _) rfl rfl rfl rfl
  · have hp1 : (ask6 s).2 = 0 := by omega
    have hb1 : ((ask6 s).2 == 0) = true := beq_iff_eq.2 hp1
    by_cases g2 : (ask1 s).1 ≠ 1
    · have hb2 : ((ask1 s).1 == 1) = false := beq_eq_false_iff_ne.2 g2
      have hv : askV s = .tuple #[.agg #[.int .i64 0, .string ⟨#[]⟩, .int .i64 0, .int .i64 0], .int .i64 3] := if_pos (.inr (.inl g2))
      have HV := Lib.hid hv
      clear hv g1
      go_wp2_with fail
      exact ask_ret s _ _ w _ 0 ⟨#[]⟩ 0 0 3 (HB7.out.set4 _ _ _ _) HV.out (below_set4 HK7.out (Nat.le_refl _) _ _ _ _) rfl rfl rfl rfl
    · have hp2 : (ask1 s).1 = 1 := by omega
      have hb2 : ((ask1 s).1 == 1) = true := beq_iff_eq.2 hp2
      by_cases g3 : (ask3 s).1.size = 0
      · have hb3 : (ask3 s).1.toList.isEmpty = true := by rw [toList_empty]; exact decide_eq_true g3
        have hv : askV s = .tuple #[.agg #[.int .i64 0, .string ⟨#[]⟩, .int .i64 0, .int .i64 0], .int .i64 3] := if_pos (.inr (.inr g3))
        have HV := Lib.hid hv
        clear hv g1 g2 g3
        go_wp2_with fail
        exact ask_ret s _ _ w _ 0 ⟨#[]⟩ 0 0 3 (HB7.out.set4 _ _ _ _) HV.out (below_set4 HK7.out (Nat.le_refl _) _ _ _ _) rfl rfl rfl rfl
      · have hb3 : (ask3 s).1.toList.isEmpty = false := by rw [toList_empty]; exact decide_eq_false g3
        have hv : askV s = .tuple #[askAgg s, .int .i64 0] := if_neg (fun h => h.elim g1 (fun h => h.elim g2 g3))
        have HV := Lib.hid hv
        clear hv g1 g2 g3
        go_wp2_with fail
        exact ask_ret s _ _ w _ _ _ _ _ 0 (HB7.out.set4 _ _ _ _) HV.out (below_set4 HK7.out (Nat.le_refl _) _ _ _ _) rfl rfl rfl rfl
end Go.Proofs.Ytobepddifflpdaa
