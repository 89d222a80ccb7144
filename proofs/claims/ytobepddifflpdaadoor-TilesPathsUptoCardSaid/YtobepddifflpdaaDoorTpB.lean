import Derived.Test.YtobepddifflpdaaDoorTpA
import Derived.Test.YtobepddifflpdaaDoorTlI
import Derived.WalkSmall
import Derived.Deep.DeepCutAuto
set_option linter.unusedVariables false
namespace Go.Proofs.YtobepddifflpdaaDoor
open Go Go.RowKit Go.Lib Go.Sort

/-! the package-level variables that cutting and reading numbers look into -/
def nP : Nat := max 3 (max 4 5) + 1
theorem gES : Tryd.prog.globalNamed "strconv.ErrSyntax" = some 4 := by kernel_rfl
theorem gER : Tryd.prog.globalNamed "strconv.ErrRange" = some 5 := by kernel_rfl
structure Vars (w : World) : Prop where
  size : nP ≤ w.heap.size
  mx : ∃ m, w.cell? ⟨3, 0, none⟩ = some (.int .i64 m)
  es : ∃ tp p, w.var? Tryd.prog "strconv.ErrSyntax" = some #[.iface tp p]
  er : ∃ tp p, w.var? Tryd.prog "strconv.ErrRange" = some #[.iface tp p]
theorem Vars.below {w w' : World} (h : Vars w) (k : Below w.heap.size w w') : Vars w' := by
  obtain ⟨hs, ⟨m, hm⟩, ⟨t1, p1, h1⟩, ⟨t2, p2, h2⟩⟩ := h
  have hs' : max 3 (max 4 5) + 1 ≤ w.heap.size := hs
  exact ⟨Nat.le_trans hs k.size, ⟨m, (k.cell (p := ⟨3, 0, none⟩) (by show 3 < _; omega)).trans hm⟩, ⟨t1, p1, var?_below k gES (by omega) h1⟩, ⟨t2, p2, var?_below k gER (by omega) h2⟩⟩
theorem Vars.alloc {w : World} (h : Vars w) (o : Obj) : Vars (w.alloc o) := h.below ((Below.refl _ _).alloc (Nat.le_refl _) o)

def AtoiPost (s : ByteArray) (w : World) (e : Ending) (w' : World) : Prop := ∃ er, e = .returned (.tuple #[.int .i64 (atoiV s.data.toList), er]) ∧ Below w.heap.size w w'
theorem atoi_any (s : ByteArray) (w : World) (hs : s.size ≤ 1048576) (hV : Vars w) :
    Calls Tryd.prog 65 #[.string s] w (AtoiPost s w) := by
  obtain ⟨-, -, ⟨t1, p1, h1⟩, ⟨t2, p2, h2⟩⟩ := hV
  cases h : Lib.atoiAll s.data.toList with
  | ok v =>
    refine (Tryd.strconv_Atoi_ok s (by omega) v h w).mono ?_
    rintro e w' ⟨rfl, hw⟩
    refine ⟨_, by unfold atoiV; rw [h], ?_⟩
    rcases hw with rfl | ⟨t, rfl⟩
    · exact Below.refl _ _
    · exact Lib.bytesWorld_below _ _ _
  | range =>
    refine (Tryd.strconv_Atoi_range_var s (by omega) h t2 p2 w h2).mono ?_
    rintro e w' ⟨N, rfl, -, -, hb⟩
    exact ⟨_, by unfold atoiV; rw [h], hb⟩
  | _ =>
    refine (Any.strconv_Atoi_syntax_var Tryd.laysC172 s (by omega) h t1 p1 w h1).mono ?_
    rintro e w' ⟨N, rfl, -, -, hb⟩
    exact ⟨_, by unfold atoiV; rw [h], hb⟩

theorem cut_any (s sep : ByteArray) (w : World) (hs : s.size ≤ 1048576) (hV : Vars w) :
    Calls Tryd.prog 63 #[.string s, .string sep] w fun e w' => e = .returned (.tuple #[.string (bytesL (Lib.cut s.data.toList sep.data.toList).1), .string (bytesL (Lib.cut s.data.toList sep.data.toList).2.1), .bool (Lib.cut s.data.toList sep.data.toList).2.2]) ∧ Below w.heap.size w w' := by
  obtain ⟨-, ⟨m, hm⟩, -, -⟩ := hV
  refine (Tryd.strings_Cut s sep m w (by omega) hm).mono ?_
  rintro e w' ⟨rfl, n, rfl⟩
  exact ⟨rfl, rfl, rfl, rfl, Nat.le_refl _, fun _ _ => rfl⟩
theorem trimp_any (s p : ByteArray) (w : World) :
    Calls Tryd.prog 64 #[.string s, .string p] w fun e w' => e = .returned (.string (bytesL (Lib.trimPrefix s.data.toList p.data.toList))) ∧ w = w' := by
  refine (Tryd.strings_TrimPrefix s p w).mono ?_
  rintro e w' ⟨rfl, rfl⟩
  exact ⟨rfl, rfl⟩

theorem bytesL_size (l : List UInt8) : (bytesL l).size = l.length := rfl
theorem bytesL_list (l : List UInt8) : (bytesL l).data.toList = l := rfl
theorem bytesL_eq (s : ByteArray) : bytesL s.data.toList = s := by
  show (⟨s.data.toList.toArray⟩ : ByteArray) = s
  rw [Array.toArray_toList]
theorem trim_le (l b : List UInt8) : (Lib.trimPrefix l b).length ≤ l.length := by
  unfold Lib.trimPrefix
  split
  · rw [List.length_drop]; omega
  · exact Nat.le_refl _
theorem cut_le (l b : List UInt8) : (Lib.cut l b).1.length ≤ l.length ∧ (Lib.cut l b).2.1.length ≤ l.length := by
  unfold Lib.cut
  split
  · exact ⟨by rw [List.length_take]; omega, by rw [List.length_drop]; omega⟩
  · exact ⟨Nat.le_refl _, Nat.zero_le _⟩
theorem cutP_le (p : ByteArray) : (cutP p).1.length ≤ p.size ∧ (cutP p).2.1.length ≤ p.size := by
  have h1 := trim_le p.data.toList sTile.data.toList
  have h2 := cut_le (Lib.trimPrefix p.data.toList sTile.data.toList) sP.data.toList
  have h3 : p.data.toList.length = p.size := Array.length_toList
  unfold cutP
  omega
theorem cutQ_le (p : ByteArray) : (cutQ p).1.length ≤ p.size ∧ (cutQ p).2.1.length ≤ p.size := by
  have h1 := cutP_le p
  have h2 := cut_le (cutP p).1 sSlash.data.toList
  unfold cutQ
  omega
theorem cut_eqP (p : ByteArray) : Lib.cut (bytesL (Lib.trimPrefix p.data.toList (⟨#[116, 105, 108, 101, 47]⟩ : ByteArray).data.toList)).data.toList (⟨#[46, 112, 47]⟩ : ByteArray).data.toList = cutP p := rfl
theorem cut_eqQ (p : ByteArray) : Lib.cut (bytesL (cutP p).1).data.toList (⟨#[47]⟩ : ByteArray).data.toList = cutQ p := rfl

/-- a tile's block, of whatever type. -/
def TileT (T : TypeId) (w : World) (b : Nat) (l i x : Int) : Prop := w.heap[b]? = some (.cells #[.int .i64 l, .int .i64 i, .int .i64 x] T (0, 0))
theorem TileT.cells {T : TypeId} {w : World} {b : Nat} {l i x : Int} (h : TileT T w b l i x) : (w.cell? ⟨b, 0, none⟩ = some (.int .i64 l) ∧ w.cell? ⟨b, 1, none⟩ = some (.int .i64 i) ∧ w.cell? ⟨b, 2, none⟩ = some (.int .i64 x)) ∧ ∀ j, w.frozen? ⟨b, j, none⟩ = false :=
  ⟨⟨cell_of_blk h 0 rfl, cell_of_blk h 1 rfl, cell_of_blk h 2 rfl⟩, fun j => free_of_blk h j⟩
theorem TileT.set3 {T : TypeId} {w : World} {b : Nat} {l i x : Int} (h : TileT T w b l i x) (l' i' x' : Int) : TileT T (((w.setCell ⟨b, 0, none⟩ (.int .i64 l')).setCell ⟨b, 1, none⟩ (.int .i64 i')).setCell ⟨b, 2, none⟩ (.int .i64 x')) b l' i' x' :=
  blk_set (blk_set (blk_set h _) _) _
theorem below_set3 {B b : Nat} {w0 w : World} (h : Below B w0 w) (hb : B ≤ b) (l i x : Value) : Below B w0 (((w.setCell ⟨b, 0, none⟩ l).setCell ⟨b, 1, none⟩ i).setCell ⟨b, 2, none⟩ x) :=
  ((h.setCell (p := ⟨b, 0, none⟩) hb _).setCell (p := ⟨b, 1, none⟩) hb _).setCell (p := ⟨b, 2, none⟩) hb _
/-- two tiles under way: where they stand, and what has been done. -/
structure Two (w0 w : World) (b : Nat) (l i x : Int) : Prop where
  out : TileT 23 w b 0 0 0
  at_ : TileT 23 w (b + 1) l i x
  below : Below w0.heap.size w0 w
  base : w0.heap.size ≤ b
theorem Two.later {w0 w w' : World} {b : Nat} {l i x : Int} (h : Two w0 w b l i x) (k : Below w.heap.size w w') : Two w0 w' b l i x :=
  ⟨blk_later h.out k, blk_later h.at_ k, h.below.trans (k.mono h.below.size), h.base⟩
theorem Two.size {w0 w : World} {b : Nat} {l i x : Int} (h : Two w0 w b l i x) : w0.heap.size ≤ w.heap.size := h.below.size
theorem Two.set0 {w0 w : World} {b : Nat} {l i x : Int} (h : Two w0 w b l i x) (y : Int) : Two w0 (w.setCell ⟨b + 1, 0, none⟩ (.int .i64 y)) b y i x :=
  ⟨blk_set_other h.out (by omega) _, blk_set h.at_ _, h.below.setCell (p := ⟨b + 1, 0, none⟩) (by show w0.heap.size ≤ b + 1; have := h.base; omega) _, h.base⟩
theorem Two.set1 {w0 w : World} {b : Nat} {l i x : Int} (h : Two w0 w b l i x) (y : Int) : Two w0 (w.setCell ⟨b + 1, 1, none⟩ (.int .i64 y)) b l y x :=
  ⟨blk_set_other h.out (by omega) _, blk_set h.at_ _, h.below.setCell (p := ⟨b + 1, 1, none⟩) (by show w0.heap.size ≤ b + 1; have := h.base; omega) _, h.base⟩
theorem Two.set2 {w0 w : World} {b : Nat} {l i x : Int} (h : Two w0 w b l i x) (y : Int) : Two w0 (w.setCell ⟨b + 1, 2, none⟩ (.int .i64 y)) b l i y :=
  ⟨blk_set_other h.out (by omega) _, blk_set h.at_ _, h.below.setCell (p := ⟨b + 1, 2, none⟩) (by show w0.heap.size ≤ b + 1; have := h.base; omega) _, h.base⟩

theorem pparse_ret (p : ByteArray) (a : Act) (w w0 : World) (b : Nat) (l i x e : Int) (h : TileT 23 w b l i x) (hv : parseV p = .tuple #[tileV l i x, .int .i64 e]) (hb : Below w0.heap.size w0 w)
    (ha : a.tmps[2]?.getD undef = .pointer (some ⟨b, 0, none⟩)) (hc : a.tmps[3]?.getD undef = .int .i64 e) (hd : a.defers = []) :
    bodyPost Tryd.prog Tryd.f32 (fun e w' => e = .returned (parseV p) ∧ Below w0.heap.size w0 w') Exit.ret a w := by
  obtain ⟨⟨c0, c1, c2⟩, -⟩ := h.cells
  refine bodyPost_ret (v := .tuple #[tileV l i x, .int .i64 e]) (by simp only [results, Tryd.results32]; simp [tileV, go_sem, c0, c1, c2, ha, hc]) hd ⟨by rw [hv], hb⟩

set_option maxHeartbeats 1000000 in
set_option maxRecDepth 100000 in
theorem parse_any (p : ByteArray) (w : World) (hp : p.size ≤ 1048576) (hT : Tabs w) (hV : Vars w) :
    Calls Tryd.prog 32 #[.string p] w fun e w' => e = .returned (parseV p) ∧ Below w.heap.size w w' := by
  have HT := Lib.hid hT
  have HV := Lib.hid hV
  have hP := cutP_le p
  have hQ := cutQ_le p
  clear hT hV
  go_enter Tryd.func32, Tryd.ntmps32
  go_wp2_with fail
  refine (trimp_any _ _ _).mono ?_
  rintro e w1 ⟨rfl, rfl⟩
  go_wp2_with fail
  refine (cut_any _ _ _ (by rw [bytesL_size]; have h3 : p.data.toList.length = p.size := Array.length_toList; exact Nat.le_trans (trim_le _ _) (by omega)) ((HV.out.alloc _).alloc _)).mono ?_
  rw [cut_eqP]
  rintro e w1 ⟨rfl, hb⟩
  have h2 : Two w ((w.alloc (.cells #[.int .i64 0, .int .i64 0, .int .i64 0] 23)).alloc (.cells #[.int .i64 0, .int .i64 0, .int .i64 4] 23)) w.heap.size 0 0 4 :=
    ⟨blk_new1 _ _ _, blk_new2 _ _ _, ((Below.refl _ _).alloc (Nat.le_refl _) _).alloc (by rw [size_alloc]; omega) _, Nat.le_refl _⟩
  have H2 := Lib.hid (h2.later hb)
  clear h2 hb
  go_wp2_with fail
  refine (cut_any _ _ _ (by rw [bytesL_size]; omega) (HV.out.below H2.out.below)).mono ?_
  rw [cut_eqQ]
  rintro e w2 ⟨rfl, hb⟩
  have H3 := Lib.hid (H2.out.later hb)
  clear hb H2
  go_wp2_with fail
  refine (atoi_any _ _ (by rw [bytesL_size]; omega) (HV.out.below H3.out.below)).mono ?_
  rintro e w3 ⟨er1, rfl, hb⟩
  have H4 := Lib.hid (H3.out.later hb)
  have k0 := H4.out.at_.cells.1.1
  have f0 := H4.out.at_.cells.2 0
  clear hb H3
  have e0 : atoiV (bytesL (cutQ p).1).data.toList = progL p := rfl
  rw [e0]
  go_wp2_with fail
  have H5 := Lib.hid (H4.out.set0 (progL p))
  clear k0 f0 H4
  generalize w3.setCell ⟨w.heap.size + 1, 0, none⟩ (.int .i64 (progL p)) = w4 at H5 ⊢
  refine (atoi_any _ _ (by rw [bytesL_size]; omega) (HV.out.below H5.out.below)).mono ?_
  rintro e w5 ⟨er2, rfl, hb⟩
  have H6 := Lib.hid (H5.out.later hb)
  have k1 := H6.out.at_.cells.1.2.1
  have f1 := H6.out.at_.cells.2 1
  clear hb H5
  have e1 : atoiV (bytesL (cutQ p).2.1).data.toList = progI p := rfl
  rw [e1]
  go_upto_if 37 with (fail)
  have H7 := Lib.hid (H6.out.set1 (progI p))
  clear k1 f1 H6
  generalize w5.setCell ⟨w.heap.size + 1, 1, none⟩ (.int .i64 (progI p)) = w6 at H7 ⊢
  have k2 := H7.out.at_.cells.1.2.2
  have f2 := H7.out.at_.cells.2 2
  obtain ⟨cb, hcb⟩ : ∃ cb, cb = (cutP p).2.2 := ⟨_, rfl⟩
  rw [← hcb]
  have HC := Lib.hid hcb
  clear hcb
  go_cut [] (fun wx => Two w wx w.heap.size (progL p) (progI p) (progX p))
  case first =>
    cases cb with
    | true =>
      have hx : progX p = atoiV (bytesL (cutP p).2.1).data.toList := if_pos HC.out.symm
      have HX := Lib.hid hx
      clear hx
      go_wp2_with fail
      refine (atoi_any _ _ (by rw [bytesL_size]; omega) (HV.out.below H7.out.below)).mono ?_
      rintro e w7 ⟨er3, rfl, hb⟩
      have H8 := Lib.hid (H7.out.later hb)
      have k3 := H8.out.at_.cells.1.2.2
      have f3 := H8.out.at_.cells.2 2
      clear hb H7 k2 f2
      rw [← HX.out]
      go_wp2_with fail
      go_meet
      exact H8.out.set2 _
    | false =>
      have hx : progX p = 4 := if_neg (by rw [← HC.out]; decide)
      have HX := Lib.hid hx
      clear hx
      go_wp2_with fail
      go_meet
      rw [HX.out]
      exact H7.out
  case rest =>
    have H8 := Lib.hid hcut
    clear hcut H7 k2 f2
    obtain ⟨⟨c0, c1, c2⟩, cf⟩ := H8.out.at_.cells
    obtain ⟨⟨d0, d1, d2⟩, df⟩ := H8.out.out.cells
    have df0 := df 0
    have df1 := df 1
    have df2 := df 2
    clear cf df
    by_cases hp0 : p = ⟨#[]⟩
    · have hpe : p.toList.isEmpty = true := by rw [toList_empty, hp0]; rfl
      have hN := Lib.hid (parse_prog_no (.inl hp0))
      clear hp0
      go_wp2_with fail
      exact pparse_ret p _ _ w _ 0 0 0 3 (H8.out.out.set3 0 0 0) (by unfold parseV; rw [hN.out]) (below_set3 H8.out.below (Nat.le_refl _) _ _ _) rfl rfl rfl
    · have hpe : p.toList.isEmpty = false := by
        rw [toList_empty]
        exact decide_eq_false fun e => hp0 (ByteArray.size_eq_zero_iff.1 e)
      have hI : ∀ n : Int, 0 ≤ n → n ≤ 1099511627776 → ItoaOk n wc := fun n h0 h1 => (HT.out.below H8.out.below).itoa n h0 h1
      have HI := Lib.hid hI
      have HP0 := Lib.hid hp0
      clear hI hp0
      go_wp2_with fail
      refine (path_any (progL p) (progI p) (progX p) _ ?_ ?_ ?_).mono ?_
      · intro hf
        exact HI.out _ (fit_bd hf).1 (fit_bd hf).2.1
      · intro hf
        exact HI.out _ (fit_bd hf).2.2.1 (fit_bd hf).2.2.2.1
      · intro hf
        exact HI.out _ (fit_bd hf).2.2.2.2.1 (fit_bd hf).2.2.2.2.2
      rintro e w9 ⟨rfl, hb⟩
      have H9 := Lib.hid (H8.out.later hb)
      clear hb H8 c0 c1 c2 d0 d1 d2 df0 df1 df2
      obtain ⟨⟨c0, c1, c2⟩, cf⟩ := H9.out.at_.cells
      obtain ⟨⟨d0, d1, d2⟩, df⟩ := H9.out.out.cells
      have df0 := df 0
      have df1 := df 1
      have df2 := df 2
      clear cf df
      by_cases hq : pathT (progL p) (progI p) (progX p) = p
      · have hq2 : ((pathT (progL p) (progI p) (progX p)).toList == p.toList) = true := by rw [toList_eq_iff]; exact decide_eq_true hq
        have hN := Lib.hid (parse_prog_yes HP0.out hq)
        clear hq
        go_wp2_with fail
        exact pparse_ret p _ _ w _ (progL p) (progI p) (progX p) 0 (H9.out.out.set3 _ _ _) (by unfold parseV; rw [hN.out]) (below_set3 H9.out.below (Nat.le_refl _) _ _ _) rfl rfl rfl
      · have hq2 : ((pathT (progL p) (progI p) (progX p)).toList == p.toList) = false := by rw [toList_eq_iff]; exact decide_eq_false hq
        have hN := Lib.hid (parse_prog_no (.inr hq))
        clear hq
        go_wp2_with fail
        exact pparse_ret p _ _ w _ 0 0 0 3 (H9.out.out.set3 0 0 0) (by unfold parseV; rw [hN.out]) (below_set3 H9.out.below (Nat.le_refl _) _ _ _) rfl rfl rfl
end Go.Proofs.YtobepddifflpdaaDoor
