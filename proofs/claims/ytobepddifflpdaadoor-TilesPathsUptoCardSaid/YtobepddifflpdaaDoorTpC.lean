import Derived.Test.YtobepddifflpdaaDoorTpB
import Derived.Test.YtobepddifflpdaaDoorTlW
import Derived.Test.YtobepddifflpdaaDoorTlK
set_option linter.unusedVariables false
namespace Go.Proofs.YtobepddifflpdaaDoor
open Go Go.RowKit Go.Lib Go.Sort

theorem parseV_form (p : ByteArray) : ∃ l i x e : Int, parseV p = .tuple #[tileV l i x, .int .i64 e] := by
  unfold parseV
  cases parseT p with
  | some t => exact ⟨_, _, _, _, rfl⟩
  | none => exact ⟨_, _, _, _, rfl⟩
theorem parseV_path {l i x : Int} (h : fitT l i x = true) : parseV (pathT l i x) = .tuple #[tileV l i x, .int .i64 0] := by
  unfold parseV
  rw [parse_path h]
theorem parseV_empty : parseV ⟨#[]⟩ = .tuple #[tileV 0 0 0, .int .i64 3] := by
  unfold parseV
  rw [parse_prog_no (.inl rfl)]

theorem path_leI {l i x : Int} (h : fitT l i x = true) : (pathT l i x).size ≤ 1000000 := by
  have hb := fit_bd h
  obtain ⟨l, rfl⟩ := Int.eq_ofNat_of_zero_le hb.1
  obtain ⟨i, rfl⟩ := Int.eq_ofNat_of_zero_le hb.2.2.1
  obtain ⟨x, rfl⟩ := Int.eq_ofNat_of_zero_le hb.2.2.2.2.1
  exact path_le h
theorem path_neI {l i x : Int} (h : fitT l i x = true) : pathT l i x ≠ ⟨#[]⟩ := by
  intro e
  have h1 := parse_path h
  rw [e, parse_prog_no (.inl rfl)] at h1
  cases h1
theorem TileT.cellsA {T : TypeId} {w : World} {b : Nat} {l i x : Int} (h : TileT T w b l i x) : (∀ o, (w.alloc o).cell? ⟨b, 0, none⟩ = some (.int .i64 l)) ∧ (∀ o, (w.alloc o).cell? ⟨b, 1, none⟩ = some (.int .i64 i)) ∧ (∀ o, (w.alloc o).cell? ⟨b, 2, none⟩ = some (.int .i64 x)) :=
  ⟨fun o => cell_alloc h.cells.1.1 o, fun o => cell_alloc h.cells.1.2.1 o, fun o => cell_alloc h.cells.1.2.2 o⟩
theorem eq_tile3 (w : World) (a b c : Int) : (binOp .eql 23 (.agg #[.int .i64 a, .int .i64 b, .int .i64 c]) (.agg #[.int .i64 a, .int .i64 b, .int .i64 c])).run Tryd.prog w = .ok (.bool true) w := by
  have u3 := Tryd.underlying3
  have a3 := Tryd.isAgg3
  have z3 := Tryd.sizeOf3
  have hS : Tryd.prog.underlying 23 = some (.struct (Tryd.prog.fieldsOf 23)) := by kernel_rfl
  have hp : Tryd.prog.stoodInHeld 23 = false := by kernel_rfl
  rw [run_eql_struct, show (10000 : Nat) = 9999 + 1 from rfl, run_equalIn_agg w 9999 23 _ _ hS hp]
  simp only [Program.fieldsOf, Tryd.underlying23]
  go_simp

set_option maxHeartbeats 1000000 in
set_option maxRecDepth 100000 in
theorem paths_any (l i x : Int) (t : ByteArray) (w : World) (hT : Tabs w) (hV : Vars w) (ht : t.size ≤ 1048576) :
    Calls Tryd.prog 9 #[.agg #[.int .i64 l, .int .i64 i, .int .i64 x], .string t] w fun e w' => e = .returned (.bool true) ∧ Below w.heap.size w w' := by
  have HT := Lib.hid hT
  have HV := Lib.hid hV
  clear hT hV
  go_enter Tryd.func9, Tryd.ntmps9
  go_wp2_with fail
  refine (reads_any _ (HT.out.alloc _)).mono ?_
  rintro e w1 ⟨rfl, hb⟩
  have b2 : TileT 23 w1 w.heap.size l i x := blk_later (blk_new _ _) hb
  have hB := ((Below.refl w.heap.size w).alloc (Nat.le_refl _) (.cells #[.int .i64 l, .int .i64 i, .int .i64 x] 23)).trans (hb.mono (by rw [size_alloc]; omega))
  have HB := Lib.hid hB
  have H2 := Lib.hid b2
  obtain ⟨⟨c0, c1, c2⟩, -⟩ := b2.cells
  clear hb b2 hB
  go_wp2_with fail
  have hI : ∀ n : Int, 0 ≤ n → n ≤ 1099511627776 → ItoaOk n w1 := fun n h0 h1 => (HT.out.below HB.out).itoa n h0 h1
  refine (path_any l i x _ (fun hf => hI _ (fit_bd hf).1 (fit_bd hf).2.1) (fun hf => hI _ (fit_bd hf).2.2.1 (fit_bd hf).2.2.2.1) (fun hf => hI _ (fit_bd hf).2.2.2.2.1 (fit_bd hf).2.2.2.2.2)).mono ?_
  rintro e w2 ⟨rfl, hb⟩
  have b2 := blk_later H2.out hb
  have HB2 := Lib.hid (HB.out.trans (hb.mono HB.out.size))
  clear hb HB H2 c0 c1 c2 hI
  obtain ⟨⟨c0, c1, c2⟩, -⟩ := TileT.cells b2
  have H2 := Lib.hid b2
  clear b2
  go_wp2_with fail
  have hI : ∀ n : Int, 0 ≤ n → n ≤ 1099511627776 → ItoaOk n w2 := fun n h0 h1 => (HT.out.below HB2.out).itoa n h0 h1
  refine (refpath_any l i x _ (fun hf => hI _ (fit_bd hf).1 (fit_bd hf).2.1) (fun hf => hI _ (fit_bd hf).2.2.1 (fit_bd hf).2.2.2.1) (fun hf => hI _ (fit_bd hf).2.2.2.2.1 (fit_bd hf).2.2.2.2.2)).mono ?_
  rintro e w3 ⟨rfl, hb⟩
  have b2 := blk_later H2.out hb
  have HB3 := Lib.hid (HB2.out.trans (hb.mono HB2.out.size))
  clear hb HB2 H2 c0 c1 c2 hI
  have H3 := Lib.hid b2
  clear b2
  have hpp : ((pathT l i x).toList == (pathT l i x).toList) = true := by rw [toList_eq_iff]; exact decide_eq_true rfl
  go_wp2_with fail
  clear hpp
  refine (parse_any t _ ht (HT.out.below HB3.out) (HV.out.below HB3.out)).mono ?_
  rintro e w4 ⟨rfl, hb⟩
  obtain ⟨ul, ui, ux, ue, hv⟩ := parseV_form t
  rw [hv]
  have b2 := blk_later H3.out hb
  have HB4 := Lib.hid (HB3.out.trans (hb.mono HB3.out.size))
  have H4 := Lib.hid b2
  have HF := Lib.hid hv
  clear hb HB3 H3 b2 hv
  unfold tileV
  go_wp2_with fail
  refine (refparse_any t _ (by omega) (fun n h0 h1 => ((HT.out.below HB4.out).alloc _).itoa n h0 h1)).mono ?_
  rw [HF.out]
  rintro e w5 ⟨rfl, hb⟩
  have b2 := blk_later (blk_alloc H4.out _) hb
  have b6 := blk_later (blk_new _ _) hb
  have hne6 : w.heap.size < w4.heap.size := (Array.getElem?_eq_some_iff.1 H4.out).1
  have HB5 := Lib.hid ((HB4.out.alloc HB4.out.size (.cells #[.int .i64 ul, .int .i64 ui, .int .i64 ux] 23)).trans (hb.mono (by rw [size_alloc]; exact Nat.le_succ_of_le HB4.out.size)))
  generalize w4.heap.size = n6 at b6 hne6 ⊢
  have H5 := Lib.hid b2
  have H6 := Lib.hid b6
  clear hb HB4 H4 b2 b6 HF
  unfold tileV
  go_wp2_with fail
  by_cases hf : fitT l i x = true
  · refine (parse_any (pathT l i x) _ (Nat.le_trans (path_leI hf) (by omega)) ((HT.out.below HB5.out).alloc _) ((HV.out.below HB5.out).alloc _)).mono ?_
    rw [parseV_path hf]
    rintro e w6 ⟨rfl, hb⟩
    have b2 := blk_later (blk_alloc H5.out _) hb
    have b6 := blk_later (blk_alloc H6.out _) hb
    have b8 := blk_later (blk_new _ _) hb
    have hb8 : n6 < w5.heap.size := (Array.getElem?_eq_some_iff.1 H6.out).1
    have HB6 := Lib.hid ((HB5.out.alloc HB5.out.size (.cells #[.int .i64 ul, .int .i64 ui, .int .i64 ux] 28)).trans (hb.mono (by rw [size_alloc]; exact Nat.le_succ_of_le HB5.out.size)))
    generalize w5.heap.size = n8 at b8 hb8 ⊢
    have hlt6 : n8 < w6.heap.size := (Array.getElem?_eq_some_iff.1 b8).1
    clear hb HB5 H5 H6
    obtain ⟨c0, c1, c2⟩ := TileT.cellsA b2
    obtain ⟨d0, d1, d2⟩ := TileT.cellsA b6
    obtain ⟨g0, g1, g2⟩ := TileT.cellsA b8
    have H := Lib.hid (And.intro b2 (And.intro b6 b8))
    clear b2 b6 b8
    have hpe : (pathT l i x).toList.isEmpty = false := by
      rw [toList_empty]
      exact decide_eq_false fun e => path_neI hf (ByteArray.size_eq_zero_iff.1 e)
    have hq1 := fun W => eq_tile3 W ul ui ux
    have hq2 := fun W => eq_tile3 W l i x
    unfold tileV
    go_wp2_with fail
    go_ret
    exact ⟨rfl, HB6.out.alloc HB6.out.size _⟩
  · have hpn : pathT l i x = ⟨#[]⟩ := by unfold pathT; rw [if_neg hf]
    rw [hpn]
    refine (parse_any ⟨#[]⟩ _ (by decide) ((HT.out.below HB5.out).alloc _) ((HV.out.below HB5.out).alloc _)).mono ?_
    rw [parseV_empty]
    rintro e w6 ⟨rfl, hb⟩
    have b2 := blk_later (blk_alloc H5.out _) hb
    have b6 := blk_later (blk_alloc H6.out _) hb
    have b8 := blk_later (blk_new _ _) hb
    have hb8 : n6 < w5.heap.size := (Array.getElem?_eq_some_iff.1 H6.out).1
    have HB6 := Lib.hid ((HB5.out.alloc HB5.out.size (.cells #[.int .i64 ul, .int .i64 ui, .int .i64 ux] 28)).trans (hb.mono (by rw [size_alloc]; exact Nat.le_succ_of_le HB5.out.size)))
    generalize w5.heap.size = n8 at b8 hb8 ⊢
    have hlt6 : n8 < w6.heap.size := (Array.getElem?_eq_some_iff.1 b8).1
    clear hb HB5 H5 H6
    obtain ⟨c0, c1, c2⟩ := TileT.cellsA b2
    obtain ⟨d0, d1, d2⟩ := TileT.cellsA b6
    obtain ⟨g0, g1, g2⟩ := TileT.cellsA b8
    have H := Lib.hid (And.intro b2 (And.intro b6 b8))
    have hq1 := fun W => eq_tile3 W ul ui ux
    clear b2 b6 b8 hpn
    unfold tileV
    go_wp2_with fail
    go_ret
    exact ⟨rfl, HB6.out.alloc HB6.out.size _⟩
end Go.Proofs.YtobepddifflpdaaDoor
