import Derived.Test.YtmejjphliaiamaaGreatDoorNoW
import Derived.Test.YtmejjphliaiamaaGreatDoorNoS
import Derived.Test.YtmejjphliaiamaaGreatDoorNoH
set_option linter.unusedVariables false
set_option linter.unusedSimpArgs false
namespace Go.Proofs.YtmejjphliaiamaaGreatDoor
open Go Go.RowKit Go.Lib

theorem eq_cp3 (w : World) (o r : ByteArray) (n : Int) : (binOp .eql 28 (.agg #[.string o, .int .i64 n, .string r]) (.agg #[.string o, .int .i64 n, .string r])).run Tryz.prog w = .ok (.bool true) w := by
  have u3 := Tryz.underlying3
  have a3 := Tryz.isAgg3
  have z3 := Tryz.sizeOf3
  have u5 := Tryz.underlying9
  have hS : Tryz.prog.underlying 28 = some (.struct (Tryz.prog.fieldsOf 28)) := by kernel_rfl
  have hp : Tryz.prog.stoodInHeld 28 = false := by kernel_rfl
  rw [run_eql_struct, show (10000 : Nat) = 9999 + 1 from rfl, run_equalIn_agg w 9999 28 _ _ hS hp]
  simp only [Program.fieldsOf, Tryz.underlying28]
  go_simp
theorem ne_cp3 (w : World) (o r : ByteArray) (n : Int) : (binOp .neq 28 (.agg #[.string o, .int .i64 n, .string r]) (.agg #[.string o, .int .i64 n, .string r])).run Tryz.prog w = .ok (.bool false) w := by
  have u3 := Tryz.underlying3
  have a3 := Tryz.isAgg3
  have z3 := Tryz.sizeOf3
  have u5 := Tryz.underlying9
  have hS : Tryz.prog.underlying 28 = some (.struct (Tryz.prog.fieldsOf 28)) := by kernel_rfl
  have hp : Tryz.prog.stoodInHeld 28 = false := by kernel_rfl
  rw [run_neq_struct, show (10000 : Nat) = 9999 + 1 from rfl, run_equalIn_agg w 9999 28 _ _ hS hp]
  simp only [Program.fieldsOf, Tryz.underlying28]
  go_simp

def z32 : ByteArray := ⟨(List.replicate 32 0).toArray⟩
def aB : ByteArray := ⟨#[97]⟩
theorem make32 (w : World) : (Instr.makeSlice 47 (.int .i64 32) (.int .i64 32)).run Tryz.prog w = .ok (.slice (some ⟨w.heap.size, 0, none⟩) 32 32) (w.alloc (.cells (Array.replicate 32 (.int .u8 0)) 5)) := by kernel_rfl
theorem zeros32_cells : strCells z32 = List.replicate 32 (.int .u8 0) := by kernel_rfl
theorem zeros32 (w : World) : OwnB (w.alloc (.cells (Array.replicate 32 (.int .u8 0)) 5)) w.heap.size (.slice (some ⟨w.heap.size, 0, none⟩) 32 32) z32 := by
  refine ⟨by rw [zeros32_cells]; rfl, .inr ⟨w.heap.size, 32, _, rfl, Nat.le_refl _, blk_new _ _, Nat.le_refl _, by unfold maxLen; omega, rfl, ?_⟩⟩
  rw [zeros32_cells]
  rfl
theorem tell_cp : cpV aB 0 z32 = (cpT aB 0 z32, 0) := cpV_good (by decide +kernel)
theorem tell_87 : (cpT aB 0 z32).size = 87 := by decide +kernel

set_option maxRecDepth 100000 in
set_option maxHeartbeats 1000000 in
theorem tells_any (w : World) (hV : VarsV w) : Calls Tryz.prog 29 #[] w fun e w' => e = .returned (.bool true) ∧ Below w.heap.size w w' := by
  have HV := Lib.hid hV
  have hT := fun W hW => text_any aB 0 z32 W (by decide) (by decide) hW
  have hq := parseP_back tell_cp
  have hP := fun W hW => parse_any (cpT aB 0 z32) W (by rw [tell_87]; decide) hW
  rw [tell_cp] at hT
  rw [hq] at hP
  have h87 := tell_87
  generalize cpT aB 0 z32 = T at hT hP h87
  have HT := Lib.hid hT
  have HP := Lib.hid hP
  have h87i : (T.size : Int) = 87 := by omega
  clear hV hT hP hq
  go_enter Tryz.func29, Tryz.ntmps29
  have hmk := make32
  go_wp2_with fail
  rw [run_str (zeros32 w)]
  simp only [Result.andThen]
  rw [Oper.upon_value]
  have HB0 := Lib.hid ((Below.refl w.heap.size w).alloc (Nat.le_refl _) (.cells (Array.replicate 32 (.int .u8 0)) 5))
  have HV0 := Lib.hid (HV.out.alloc (.cells (Array.replicate 32 (.int .u8 0)) 5))
  generalize w.alloc (.cells (Array.replicate 32 (.int .u8 0)) 5) = w0 at HB0 HV0 ⊢
  clear hmk
  have hvT := HV0.out.alloc (.cells #[.string aB, .int .i64 0, .string z32] 28)
  have HVT := Lib.hid hvT
  clear hvT
  go_wp2_with fail
  refine (HT.out _ HVT.out).mono ?_
  rintro e w1 ⟨rfl, hb⟩
  have hC : CpAt w1 w0.heap.size aB 0 z32 := blk_later (blk_new _ _) hb
  have HC := Lib.hid hC
  have HK1 := Lib.hid ((HB0.out.alloc HB0.out.size (.cells #[.string aB, .int .i64 0, .string z32] 28)).trans (hb.mono (by rw [size_alloc]; exact Nat.le_succ_of_le HB0.out.size)))
  clear hb hC
  go_wp2_with fail
  refine (HP.out _ (HV.out.below HK1.out)).mono ?_
  rintro e w2 ⟨rfl, hb⟩
  unfold cpTup cpVal
  have HC2 := Lib.hid (show CpAt w2 w0.heap.size aB 0 z32 from blk_later HC.out hb)
  have HK2 := Lib.hid (HK1.out.trans (hb.mono HK1.out.size))
  clear hb HC HK1
  go_wp2_with fail
  refine (format_t _ ((HV.out.below HK2.out).alloc _)).mono ?_
  rintro e w3 ⟨rfl, hb⟩
  have h3 : CpAt w3 w0.heap.size aB 0 z32 := blk_later (blk_alloc HC2.out _) hb
  have h4 : CpAt w3 w2.heap.size aB 0 z32 := blk_later (blk_new _ _) hb
  have HK3 := Lib.hid ((HK2.out.alloc HK2.out.size (.cells #[.string aB, .int .i64 0, .string z32] 28)).trans (hb.mono (by rw [size_alloc]; exact Nat.le_succ_of_le HK2.out.size)))
  obtain ⟨c0, c1, c2⟩ := h3.cells
  obtain ⟨d0, d1, d2⟩ := h4.cells
  have heq := fun W => eq_cp3 W aB z32 0
  clear hb h3 h4
  go_wp2_with fail
  go_ret
  exact ⟨rfl, HK3.out⟩

theorem readP_bd (s : ByteArray) : ((readP s).1.2.length ≤ 16 ∧ (readP s).1.1.size ≤ s.size) ∧ ((readP s).2 = 0 ∧ fmtV (readP s).1.1 (readP s).1.2 = (s, 0) ∨ (readP s).2 = 3) := by
  rcases readP_cases s with ⟨h, -⟩ | ⟨t, L, h, hf⟩
  · rw [h]; exact ⟨⟨Nat.zero_le _, Nat.zero_le _⟩, .inr rfl⟩
  · rw [h]
    obtain ⟨hg, hs⟩ := fmtV_ok hf
    refine ⟨⟨((noteG_iff t L).1 hg).1, ?_⟩, .inl ⟨rfl, hf⟩⟩
    show t.size ≤ s.size
    rw [hs, ByteArray.size_append, ByteArray.size_append]; omega

end Go.Proofs.YtmejjphliaiamaaGreatDoor
