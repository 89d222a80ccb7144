import Derived.Test.YtobepddifflpdaaMirC
set_option linter.unusedVariables false
namespace Go.Proofs.Ytobepddifflpdaa
open Go Go.RowKit Go.Maps Go.WideMaps

theorem mir_new (w : World) : Mir (w.alloc (.cells #[.map none] 26)) ⟨w.heap.size, 0, none⟩ none 0 (.map []) :=
  ⟨cell_of_blk (blk_new _ _) 0 rfl, free_of_blk (blk_new _ _) 0, (fun b hb => by cases hb), rfl⟩

theorem hello_part : partOf ⟨#[104, 101, 108, 108, 111]⟩ 1 2 = ⟨#[101, 108]⟩ := by decide +kernel
theorem ne_ab : (⟨#[98]⟩ : ByteArray) ≠ ⟨#[97]⟩ := by decide +kernel

theorem field_err (a b c d : Value) (w : World) : (Instr.field 30 (.agg #[a, b, c, d]) 1).run Try.prog w = .ok b w := by kernel_rfl

set_option maxRecDepth 100000 in
theorem serves_any (w : World) : Calls Try.prog 6 #[] w (RetB (.bool true) w) := by
  have hget := Lib.hid (mget_put_same isMap_empty ⟨#[97]⟩ ⟨#[104, 101, 108, 108, 111]⟩)
  have hget2 := Lib.hid ((mget_put_other (D := .map []) (p := ⟨#[97]⟩) (q := ⟨#[98]⟩) ⟨#[104, 101, 108, 108, 111]⟩ ne_ab).trans (mget_empty _))
  have hpart := Lib.hid hello_part
  have hfe := field_err
  go_enter Try.func6, Try.ntmps6
  go_wp2_with fail
  refine (put_first _ 0 _ _ _ (by decide) (by decide) (by decide) (mir_new w)).mono ?_
  rintro e w1 ⟨rfl, v1, hM, hv1, hk⟩
  have HM := Lib.hid hM
  have HB := Lib.hid (Kp.toBelow hk (B := w.heap.size) (by simp) (by rintro i (rfl | h); exact Nat.le_refl _; cases h))
  have hsz := hk.size
  rw [size_alloc] at hsz
  clear hM hv1 hk
  go_wp2_with fail
  refine (answer_ok _ v1 1 _ 3 1 2 _ _ w1 (by decide) (by decide) HM.out hget.out (by decide) (by decide) (by decide)).mono ?_
  rw [hpart.out]
  rintro e w2 ⟨rfl, hb2⟩
  have HM2 := Lib.hid (HM.out.below hb2)
  have HB2 := Lib.hid (HB.out.trans (hb2.mono (show w.heap.size ≤ w1.heap.size by omega)))
  have hsz2 := hb2.size
  clear hb2
  go_wp2_with fail
  refine (answer_no _ v1 1 _ 0 0 0 _ _ (by decide) (HM2.out.alloc _) hget2.out).mono ?_
  rintro e w3 ⟨rfl, hb3⟩
  have HB3 := Lib.hid ((HB2.out.alloc (show w.heap.size ≤ w2.heap.size by omega) _).trans (hb3.mono (by rw [size_alloc]; omega)))
  clear hb3
  go_wp2_with fail
  go_ret
  exact ⟨rfl, ((Below.refl _ _).alloc (Nat.le_refl _) _).trans HB3.out⟩

end Go.Proofs.Ytobepddifflpdaa
