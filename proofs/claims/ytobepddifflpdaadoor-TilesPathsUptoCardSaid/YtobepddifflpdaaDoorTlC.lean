import Derived.Test.YtobepddifflpdaaDoorTlB
set_option linter.unusedVariables false
namespace Go.Proofs.YtobepddifflpdaaDoor
open Go Go.RowKit Go.Lib Go.Sort

set_option maxRecDepth 100000 in
theorem nodes_any (n l : Nat) (w : World) (hn : n ≤ 1000000000000) (hl : l ≤ 31) : Calls Tryd.prog 34 #[.int .i64 n, .int .i64 l] w fun e w' => e = .returned (.int .i64 ((n / 2 ^ (2 * l) : Nat) : Int)) ∧ w' = w := by
  go_enter Tryd.func34, Tryd.ntmps34
  go_wp2_with fail
  go_ret
  refine ⟨?_, rfl⟩
  show Ending.returned (.int .i64 ((n : Int) / 2 ^ (2 * l))) = _
  rw [Int.natCast_ediv, Int.natCast_pow]
  rfl

set_option maxRecDepth 100000 in
theorem refnodes_any (n l : Nat) (w : World) (hn : n ≤ 1000000000000) (hl : l ≤ 31) : Calls Tryd.prog 43 #[.int .i64 n, .int .i64 l] w fun e w' => e = .returned (.int .i64 ((n / 2 ^ (2 * l) : Nat) : Int)) ∧ w' = w := by
  go_enter Tryd.func43, Tryd.ntmps43
  go_wp2_with fail
  go_ret
  refine ⟨?_, rfl⟩
  show Ending.returned (.int .i64 ((n : Int) / 2 ^ (min (2 * (l : Int)) 62).toNat)) = _
  rw [show (min (2 * (l : Int)) 62).toNat = 2 * l by omega, Int.natCast_ediv, Int.natCast_pow]
  rfl

set_option maxRecDepth 100000 in
theorem width_any (n l : Nat) (i : Int) (w : World) (hn : n ≤ 1000000000000) (hl : l ≤ 31) (hi : 0 ≤ i ∧ i ≤ 1099511627776) : Calls Tryd.prog 35 #[.int .i64 n, .int .i64 l, .int .i64 i] w fun e w' => e = .returned (.int .i64 (min 4 (((n / 2 ^ (2 * l) : Nat) : Int) - 4 * i))) ∧ w' = w := by
  have hle : n / 2 ^ (2 * l) ≤ n := Nat.div_le_self _ _
  have hcall := nodes_any n l w hn hl
  generalize n / 2 ^ (2 * l) = m at hle hcall ⊢
  go_enter Tryd.func35, Tryd.ntmps35
  go_wp2_with fail
  refine hcall.mono ?_
  rintro e w1 ⟨rfl, rfl⟩
  go_wp2_with fail
  go_ret
  exact ⟨rfl, rfl⟩

set_option maxRecDepth 100000 in
theorem refwidth_any (n l : Nat) (i : Int) (w : World) (hn : n ≤ 1000000000000) (hl : l ≤ 31) (hi : 0 ≤ i ∧ i ≤ 1099511627776) : Calls Tryd.prog 42 #[.int .i64 n, .int .i64 l, .int .i64 i] w fun e w' => e = .returned (.int .i64 (max 0 (min 4 (((n / 2 ^ (2 * l) : Nat) : Int) - 4 * i)))) ∧ w' = w := by
  have hle : n / 2 ^ (2 * l) ≤ n := Nat.div_le_self _ _
  have hcall := refnodes_any n l w hn hl
  generalize n / 2 ^ (2 * l) = m at hle hcall ⊢
  go_enter Tryd.func42, Tryd.ntmps42
  go_wp2_with fail
  refine hcall.mono ?_
  rintro e w1 ⟨rfl, rfl⟩
  go_wp2_with fail
  go_ret
  exact ⟨rfl, rfl⟩
end Go.Proofs.YtobepddifflpdaaDoor
