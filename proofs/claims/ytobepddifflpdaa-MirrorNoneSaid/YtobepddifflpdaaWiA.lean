import Derived.Test.YtobepddifflpdaaPkDF
import Derived.Test.YtobepddifflpdaaPkE
set_option linter.unusedVariables false
namespace Go.Proofs.Ytobepddifflpdaa
open Go Go.RowKit Go.Lib

/-! ### an ask out of bytes -/
theorem rTxt_size (r : RS) (most : Int) : (rTxt r most).1.size ≤ r.1.size ∧ (rTxt r most).2.1.size ≤ r.1.size := by
  have h1 := rTxt2_size r most
  have h2 := rRaw_size (rTxt2 r most) (rNum r 2).1
  unfold rTxt
  split
  · exact ⟨Nat.zero_le _, Nat.le_refl _⟩
  · refine ⟨Nat.le_trans h2.1 h1, ?_⟩
    show (if _ then _ else _ : RS).1.size ≤ _
    split
    · exact Nat.le_refl _
    · exact Nat.le_trans h2.2 h1
theorem rNum_size (r : RS) (n : Int) : (rNum r n).2.1.size ≤ r.1.size := (rRaw_size r n).2
def ask1 (s : ByteArray) : Int × RS := rNum (s, 0) 1
def ask2 (s : ByteArray) : Int × RS := rNum (ask1 s).2 2
def ask3 (s : ByteArray) : ByteArray × RS := rTxt (ask2 s).2 64
def ask4 (s : ByteArray) : Int × RS := rNum (ask3 s).2 4
def ask5 (s : ByteArray) : Int × RS := rNum (ask4 s).2 2
def ask6 (s : ByteArray) : RS := rEnd (ask5 s).2
theorem ask_sizes (s : ByteArray) : (ask1 s).2.1.size ≤ s.size ∧ (ask2 s).2.1.size ≤ s.size ∧ (ask3 s).2.1.size ≤ s.size ∧ (ask4 s).2.1.size ≤ s.size ∧ (ask5 s).2.1.size ≤ s.size := by
  have h1 : (ask1 s).2.1.size ≤ s.size := rNum_size (s, 0) 1
  have h2 := Nat.le_trans (rNum_size (ask1 s).2 2) h1
  have h3 := Nat.le_trans (rTxt_size (ask2 s).2 64).2 h2
  have h4 := Nat.le_trans (rNum_size (ask3 s).2 4) h3
  have h5 := Nat.le_trans (rNum_size (ask4 s).2 2) h4
  exact ⟨h1, h2, h3, h4, h5⟩
def askBad (s : ByteArray) : Prop := (ask6 s).2 ≠ 0 ∨ (ask1 s).1 ≠ 1 ∨ (ask3 s).1.size = 0
instance (s : ByteArray) : Decidable (askBad s) := by unfold askBad; infer_instance
def askAgg (s : ByteArray) : Value := .agg #[.int .i64 (ask2 s).1, .string (ask3 s).1, .int .i64 (ask4 s).1, .int .i64 (ask5 s).1]
def askV (s : ByteArray) : Value := if askBad s then .tuple #[.agg #[.int .i64 0, .string ⟨#[]⟩, .int .i64 0, .int .i64 0], .int .i64 3] else .tuple #[askAgg s, .int .i64 0]

/-- a block of an ask. -/
def AskAt (w : World) (b : Nat) (id : Int) (p : ByteArray) (fr mo : Int) : Prop := w.heap[b]? = some (.cells #[.int .i64 id, .string p, .int .i64 fr, .int .i64 mo] 33 (0, 0))
theorem AskAt.cells {w : World} {b : Nat} {id : Int} {p : ByteArray} {fr mo : Int} (h : AskAt w b id p fr mo) :
    (w.cell? ⟨b, 0, none⟩ = some (.int .i64 id) ∧ w.cell? ⟨b, 1, none⟩ = some (.string p) ∧ w.cell? ⟨b, 2, none⟩ = some (.int .i64 fr) ∧ w.cell? ⟨b, 3, none⟩ = some (.int .i64 mo)) ∧ ∀ j, w.frozen? ⟨b, j, none⟩ = false :=
  ⟨⟨cell_of_blk h 0 rfl, cell_of_blk h 1 rfl, cell_of_blk h 2 rfl, cell_of_blk h 3 rfl⟩, fun j => free_of_blk h j⟩
theorem AskAt.set4 {w : World} {b : Nat} {id : Int} {p : ByteArray} {fr mo : Int} (h : AskAt w b id p fr mo) (id' : Int) (p' : ByteArray) (fr' mo' : Int) :
    AskAt ((((w.setCell ⟨b, 0, none⟩ (.int .i64 id')).setCell ⟨b, 1, none⟩ (.string p')).setCell ⟨b, 2, none⟩ (.int .i64 fr')).setCell ⟨b, 3, none⟩ (.int .i64 mo')) b id' p' fr' mo' :=
  blk_set (blk_set (blk_set (blk_set h _) _) _) _
theorem below_set4 {B b : Nat} {w0 w : World} (h : Below B w0 w) (hb : B ≤ b) (x y z u : Value) : Below B w0 ((((w.setCell ⟨b, 0, none⟩ x).setCell ⟨b, 1, none⟩ y).setCell ⟨b, 2, none⟩ z).setCell ⟨b, 3, none⟩ u) :=
  (((h.setCell (p := ⟨b, 0, none⟩) hb _).setCell (p := ⟨b, 1, none⟩) hb _).setCell (p := ⟨b, 2, none⟩) hb _).setCell (p := ⟨b, 3, none⟩) hb _

/-- a reader at rb that goes on, and what lies ahead of it. -/
theorem ask_go {T : TypeId} {rb : Nat} {r r' : RS} {w0 w w' : World} (h : RdP T rb r w0 w) (k : RdP T rb r' w w') : RdP T rb r' w0 w' := h.trans k

theorem ask_ret {fn : Func} (s : ByteArray) (a : Act) (w w0 : World) (b : Nat) (id : Int) (p : ByteArray) (fr mo e : Int) (h : AskAt w b id p fr mo) (hv : askV s = .tuple #[.agg #[.int .i64 id, .string p, .int .i64 fr, .int .i64 mo], .int .i64 e]) (hb : Below w0.heap.size w0 w)
    (hf : fn.results = #[.cell 2 33, .tmp 3])
    (ha : a.tmps[2]?.getD undef = .pointer (some ⟨b, 0, none⟩)) (hc : a.tmps[3]?.getD undef = .int .i64 e) (hd : a.defers = []) :
    bodyPost Try.prog fn (fun e w' => e = .returned (askV s) ∧ Below w0.heap.size w0 w') Exit.ret a w := by
  obtain ⟨⟨c0, c1, c2, c3⟩, -⟩ := h.cells
  refine bodyPost_ret (v := .tuple #[.agg #[.int .i64 id, .string p, .int .i64 fr, .int .i64 mo], .int .i64 e]) (by simp only [results, hf]; simp [go_sem, c0, c1, c2, c3, ha, hc]) hd ⟨by rw [hv], hb⟩

set_option maxRecDepth 100000 in
set_option maxHeartbeats 1000000 in
theorem readask_any (s : ByteArray) (w : World) (hs : s.size ≤ 9223372036854775807) :
    Calls Try.prog 27 #[.string s] w fun e w' => e = .returned (askV s) ∧ Below w.heap.size w w' := by
  obtain ⟨z1, z2, z3, z4, z5⟩ := ask_sizes s
  go_enter Try.func27, Try.ntmps27
  go_wp2_with fail
  refine (read_any s _).mono ?_
  rintro e w1 ⟨rfl, hw1⟩
  have h1 : Rdr 102 w1 (w.heap.size + 1) (s, 0) := by rw [hw1]; exact blk_new2 _ _ _
  have hb0 : AskAt w1 w.heap.size 0 ⟨#[]⟩ 0 0 := by rw [hw1]; exact blk_new1 _ _ _
  have hB1 : Below w.heap.size w w1 := by rw [hw1]; exact ((Below.refl _ _).alloc (Nat.le_refl _) _).alloc (by rw [size_alloc]; omega) _
  have H1 := Lib.hid h1
  have HB0 := Lib.hid hb0
  have HB1 := Lib.hid hB1
  clear hw1 h1 hb0 hB1
  go_wp2_with fail
  refine (r1_any _ _ _ (by show s.size ≤ _; omega) H1.out).mono ?_
  rintro e w2 ⟨rfl, hP⟩
  have H2 : Hid (RdP 102 (w.heap.size + 1) (ask1 s).2 w1 w2) := Lib.hid hP
  have e1 : (rNum (s, 0) 1).1 = (ask1 s).1 := rfl
  rw [e1]
  clear hP e1
  go_wp2_with fail
  refine (r2_any _ _ _ (by omega) H2.out.1).mono ?_
  rintro e w3 ⟨rfl, hP⟩
  have H3 : Hid (RdP 102 (w.heap.size + 1) (ask2 s).2 w1 w3) := Lib.hid (H2.out.trans hP)
  have e1 : (rNum (ask1 s).2 2).1 = (ask2 s).1 := rfl
  rw [e1]
  clear hP e1 H2
  go_wp2_with fail
  refine (rtxt_any _ _ 64 _ (by decide) (by omega) H3.out.1).mono ?_
  rintro e w4 ⟨rfl, hP⟩
  have H4 : Hid (RdP 102 (w.heap.size + 1) (ask3 s).2 w1 w4) := Lib.hid (H3.out.trans hP)
  have e1 : (rTxt (ask2 s).2 64).1 = (ask3 s).1 := rfl
  rw [e1]
  clear hP e1 H3
  go_wp2_with fail
  refine (r4_any _ _ _ (by omega) H4.out.1).mono ?_
  rintro e w5 ⟨rfl, hP⟩
  have H5 : Hid (RdP 102 (w.heap.size + 1) (ask4 s).2 w1 w5) := Lib.hid (H4.out.trans hP)
  have e1 : (rNum (ask3 s).2 4).1 = (ask4 s).1 := rfl
  rw [e1]
  clear hP e1 H4
  go_wp2_with fail
  refine (r2_any _ _ _ (by omega) H5.out.1).mono ?_
  rintro e w6 ⟨rfl, hP⟩
  have H6 : Hid (RdP 102 (w.heap.size + 1) (ask5 s).2 w1 w6) := Lib.hid (H5.out.trans hP)
  have e1 : (rNum (ask4 s).2 2).1 = (ask5 s).1 := rfl
  rw [e1]
  clear hP e1 H5
  have B6 : AskAt w6 w.heap.size 0 ⟨#[]⟩ 0 0 := blk_kp HB0.out H6.out.2 (by omega)
  have K6 : Below w.heap.size w w6 := HB1.out.trans (H6.out.2.toBelow HB1.out.size (by intro i hi; subst hi; omega))
  have hlt6 : w.heap.size + 1 < w6.heap.size := (Array.getElem?_eq_some_iff.1 H6.out.1).1
  have HB6 := Lib.hid B6
  have HK6 := Lib.hid K6
  have HR6 := Lib.hid H6.out.1
  clear B6 K6 H6 HB0 HB1 H1
  go_wp2_with fail
  refine (rend_any _ _ _ (by omega) (blk_alloc HR6.out _)).mono ?_
  rintro e w7 ⟨rfl, hP⟩
  have B7 : AskAt w7 w.heap.size 0 ⟨#[]⟩ 0 0 := blk_kp (blk_alloc HB6.out _) hP.2 (by omega)
  have A7 : AskAt w7 w6.heap.size (ask2 s).1 (ask3 s).1 (ask4 s).1 (ask5 s).1 := blk_kp (blk_new _ _) hP.2 (by omega)
  have K7 : Below w.heap.size w w7 := (HK6.out.alloc HK6.out.size _).trans (hP.2.toBelow (by rw [size_alloc]; have := HK6.out.size; omega) (by intro i hi; subst hi; omega))
  have hsz7 := hP.2.size
  rw [size_alloc] at hsz7
  obtain ⟨⟨c0, c1, c2, c3⟩, -⟩ := A7.cells
  obtain ⟨⟨d0, d1, d2, d3⟩, df⟩ := B7.cells
  have df0 := df 0
  have df1 := df 1
  have df2 := df 2
  have df3 := df 3
  have HB7 := Lib.hid B7
  have HK7 := Lib.hid K7
  have e1 : (rEnd (ask5 s).2).2 = (ask6 s).2 := rfl
  rw [e1]
  clear hP B7 A7 K7 e1 HB6 HK6 HR6 df z1 z2 z3 z4 z5
  generalize w6.heap.size = ab at c0 c1 c2 c3 hlt6 hsz7 ⊢
  by_cases g1 : (ask6 s).2 ≠ 0
  · have hb1 : ((ask6 s).2 == 0) = false := beq_eq_false_iff_ne.2 g1
    have hv : askV s = .tuple #[.agg #[.int .i64 0, .string ⟨#[]⟩, .int .i64 0, .int .i64 0], .int .i64 3] := if_pos (.inl g1)
    have HV := Lib.hid hv
    clear hv
    go_wp2_with fail
    exact ask_ret s _ _ w _ 0 ⟨#[]⟩ 0 0 3 (HB7.out.set4 _ _ _ _) HV.out (below_set4 HK7.out (Nat.le_refl _) _ _ _ _) rfl rfl rfl rfl
  · have hp1 : (ask6 s).2 = 0 := by omega
    have hb1 : ((ask6 s).2 == 0) = true := beq_iff_eq.2 hp1
    by_cases g2 : (ask1 s).1 ≠ 1
    · have hb2 : ((ask1 s).1 == 1) = false := beq_eq_false_iff_ne.2 g2
      have hv : askV s = .tuple #[.agg #[.int .i64 0, .string ⟨#[]⟩, .int .i64 0, .int .i64 0], .int .i64 3] := if_pos (.inr (.inl g2))
      have HV := Lib.hid hv
      clear hv g1
      go_wp2_with fail
      exact ask_ret s _ _ w _ 0 ⟨#[]⟩ 0 0 3 (HB7.out.set4 _ _ _ _) HV.out (below_set4 HK7.out (Nat.le_refl _) _ _ _ _) rfl rfl rfl rfl
    · have hp2 : (ask1 s).1 = 1 := by omega
      have hb2 : ((ask1 s).1 == 1) = true := beq_iff_eq.2 hp2
      by_cases g3 : (ask3 s).1.size = 0
      · have hb3 : (ask3 s).1.toList.isEmpty = true := by rw [toList_empty]; exact decide_eq_true g3
        have hv : askV s = .tuple #[.agg #[.int .i64 0, .string ⟨#[]⟩, .int .i64 0, .int .i64 0], .int .i64 3] := if_pos (.inr (.inr g3))
        have HV := Lib.hid hv
        clear hv g1 g2 g3
        go_wp2_with fail
        exact ask_ret s _ _ w _ 0 ⟨#[]⟩ 0 0 3 (HB7.out.set4 _ _ _ _) HV.out (below_set4 HK7.out (Nat.le_refl _) _ _ _ _) rfl rfl rfl rfl
      · have hb3 : (ask3 s).1.toList.isEmpty = false := by rw [toList_empty]; exact decide_eq_false g3
        have hv : askV s = .tuple #[askAgg s, .int .i64 0] := if_neg (fun h => h.elim g1 (fun h => h.elim g2 g3))
        have HV := Lib.hid hv
        clear hv g1 g2 g3
        go_wp2_with fail
        exact ask_ret s _ _ w _ _ _ _ _ 0 (HB7.out.set4 _ _ _ _) HV.out (below_set4 HK7.out (Nat.le_refl _) _ _ _ _) rfl rfl rfl rfl
end Go.Proofs.Ytobepddifflpdaa
