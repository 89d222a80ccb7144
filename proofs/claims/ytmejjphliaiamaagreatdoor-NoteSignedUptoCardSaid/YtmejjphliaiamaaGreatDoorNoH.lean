import Derived.Test.YtmejjphliaiamaaGreatDoorNoG
import Derived.Test.YtmejjphliaiamaaGreatDoorBu
set_option linter.unusedVariables false
set_option linter.unusedSimpArgs false
namespace Go.Proofs.YtmejjphliaiamaaGreatDoor
open Go Go.RowKit Go.Lib

/-! ### the document's examples -/
set_option maxRecDepth 100000 in
theorem idxf_nil (f : Value) (w : World) : Calls Tryz.prog 114 #[.slice none 0 0, f] w fun e w' => e = .returned (.int .i64 (-1)) ∧ w = w' := by
  go_enter Tryz.func114, Tryz.ntmps114
  go_wp2_with fail
  go_loopw [8] (fun i wr => i = .int .i64 0 ∧ w = wr) (fun _ _ => 0)
  case atStart => exact ⟨rfl, rfl⟩
  case round =>
    obtain ⟨rfl, rfl⟩ := hrel
    go_wp2_with fail
    go_ret
    exact ⟨rfl, rfl⟩
set_option maxRecDepth 100000 in
theorem conf_nil (f : Value) (w : World) : Calls Tryz.prog 47 #[.slice none 0 0, f] w fun e w' => e = .returned (.bool false) ∧ w = w' := by
  go_enter Tryz.func47, Tryz.ntmps47
  go_wp2_with fail
  refine (idxf_nil f w).mono ?_
  rintro e w1 ⟨rfl, rfl⟩
  go_wp2_with fail
  go_ret
  exact ⟨rfl, rfl⟩
def tB : ByteArray := ⟨#[116, 10]⟩
theorem suf_t : Lib.hasSuffix tB.data.toList [10] = true := by decide
theorem pre_t : Lib.hasPrefix tB.data.toList [10] = false := by decide
theorem con_t : Lib.contains tB.data.toList [10, 10] = false := by decide +kernel
def NtAt (w : World) (b : Nat) (t : ByteArray) (v : Value) : Prop := w.heap[b]? = some (.cells #[.string t, v] 69 (0, 0))

set_option maxRecDepth 100000 in
set_option maxHeartbeats 1000000 in
theorem good_t (w : World) (hV : VarsV w) : Calls Tryz.prog 136 #[.agg #[.string ⟨#[116, 10]⟩, .slice none 0 0]] w fun e w' => e = .returned (.bool true) ∧ Below w.heap.size w w' := by
  obtain ⟨-, -, ⟨m, hm⟩, -, -⟩ := hV
  have HS := Lib.hid (fun W => Tryz.strings_HasSuffix tB ⟨#[10]⟩ W (by decide))
  have HP := Lib.hid (fun W => Tryz.strings_HasPrefix tB ⟨#[10]⟩ W)
  have HC := Lib.hid (fun W (h : W.cell? ⟨3, 0, none⟩ = some (.int .i64 m)) => Tryz.strings_Contains tB ⟨#[10, 10]⟩ m W (by decide) h)
  go_enter Tryz.func136, Tryz.ntmps136
  go_wp2_with fail
  refine (HS.out _).mono ?_
  rintro e w1 ⟨rfl, rfl⟩
  rw [suf_t]
  go_wp2_with fail
  refine (HP.out _).mono ?_
  rintro e w1 ⟨rfl, rfl⟩
  rw [pre_t]
  go_wp2_with fail
  refine (HC.out _ (cell_alloc hm _)).mono ?_
  rintro e w1 ⟨rfl, rfl⟩
  rw [con_t]
  go_wp2_with fail
  refine (conf_nil _ _).mono ?_
  rintro e w1 ⟨rfl, rfl⟩
  go_wp2_with fail
  go_ret
  exact ⟨rfl, (Below.refl _ _).alloc (Nat.le_refl _) _⟩

theorem builder_new (w : World) : Lib.IsBuilderF TB 5 w.heap.size w.heap.size [] (w.alloc (.cells #[.pointer none, .slice none 0 0] 166)) :=
  .inl ⟨Nat.le_refl _, .slice none 0 0, blk_new w _, World.ownsRowF_of (ownB_nil _ _), by simp [Value.ownBlock]⟩
set_option maxRecDepth 100000 in
set_option maxHeartbeats 1000000 in
theorem format_t (w : World) (hV : VarsV w) : Calls Tryz.prog 81 #[.agg #[.string ⟨#[116, 10]⟩, .slice none 0 0]] w fun e w' => e = .returned (.tuple #[.string ⟨#[116, 10, 10]⟩, .int .i64 0]) ∧ Below w.heap.size w w' := by
  have HV := Lib.hid hV
  clear hV
  go_enter Tryz.func81, Tryz.ntmps81
  go_wp2_with fail
  refine (good_t _ (HV.out.alloc _)).mono ?_
  rintro e w1 ⟨rfl, hb⟩
  have hN : NtAt w1 w.heap.size ⟨#[116, 10]⟩ (.slice none 0 0) := blk_later (blk_new _ _) hb
  have hK : Below w.heap.size w w1 := ((Below.refl w.heap.size w).alloc (Nat.le_refl _) _).trans (hb.mono (by rw [size_alloc]; omega))
  have HN := Lib.hid hN
  have HK := Lib.hid hK
  have c0 : w1.cell? ⟨w.heap.size, 0, none⟩ = some (.string ⟨#[116, 10]⟩) := cell_of_blk hN 0 rfl
  have c0a := fun o => cell_alloc c0 o
  clear hb hN hK
  have hB0 : Lib.IsBuilderF TB 5 w1.heap.size w1.heap.size [] (w1.alloc (.cells #[.pointer none, .slice none 0 0] 166)) := builder_new w1
  have HB0 := Lib.hid hB0
  clear hB0
  go_wp2_with fail
  refine (bwrite_any w1.heap.size w1.heap.size [] ⟨#[116, 10, 10]⟩ _ HB0.out (by decide) (by rw [size_alloc]; omega)).mono ?_
  rintro e w2 ⟨rfl, hb2, hk2⟩
  have c1 : w2.cell? ⟨w.heap.size, 1, none⟩ = some (.slice none 0 0) := by
    have h1 := cell_of_blk (blk_alloc HN.out (.cells #[.pointer none, .slice none 0 0] 166)) 1 rfl
    have hlt : w.heap.size < w1.heap.size := (Array.getElem?_eq_some_iff.1 HN.out).1
    exact (hk2.cell (p := ⟨w.heap.size, 1, none⟩) hlt).trans h1
  have hK2 : Below w.heap.size w w2 := (HK.out.alloc HK.out.size _).trans (hk2.mono (by have := HK.out.size; omega))
  have HB2 := Lib.hid hb2
  have HK2 := Lib.hid hK2
  have hs2 : w1.heap.size ≤ w2.heap.size := by have := hk2.size; rw [size_alloc] at this; omega
  clear hb2 hk2 hK2
  go_wp2_with fail
  go_loopw [17] (fun i wr => i = .int .i64 0 ∧ w2 = wr) (fun _ _ => 0)
  case atStart => exact ⟨rfl, rfl⟩
  case round =>
    obtain ⟨rfl, rfl⟩ := hrel
    go_wp2_with fail
    refine (Tryz.Builder_String_f w1.heap.size w1.heap.size [116, 10, 10] _ (.inr HB2.out) (by decide)).mono ?_
    rintro e w3 ⟨rfl, -, hb⟩
    have HB := Lib.hid hb
    clear hb
    go_wp2_with fail
    go_ret2
    exact ⟨rfl, HK2.out.trans (HB.out.mono HK.out.size)⟩
end Go.Proofs.YtmejjphliaiamaaGreatDoor
