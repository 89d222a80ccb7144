import Derived.Test.YtobepddifflpdaaDoorTiE
import Derived.Test.YtobepddifflpdaaDoorTlW
import Derived.Lib.QuietBelow
set_option linter.unusedVariables false
namespace Go.Proofs.YtobepddifflpdaaDoor
open Go Go.RowKit Go.Lib Go.Sort Go.Maps Go.WideMaps

/-! ### what is refused at once -/
def BadArg (sv : Value) (n : Int) : Prop := sv = .nilIface ∨ (∃ T x, sv = .iface T x) ∧ (n < 0 ∨ 1024 < n)
theorem nil_nil (w : World) : (binOp .eql 83 .nilIface .nilIface).run Tryd.prog w = .ok (.bool true) w := run_eql_nil_nil w _ (by kernel_rfl)

theorem newReader_bad (sv : Value) (n : Int) (w : World) (h : BadArg sv n) : Calls Tryd.prog 44 #[sv, .int .i64 n] w fun e w' => e = .returned (.tuple #[.pointer none, .int .i64 1]) ∧ w' = w := by
  have hnn := nil_nil
  rcases h with rfl | ⟨⟨T, x, rfl⟩, h⟩
  · go_enter Tryd.func44, Tryd.ntmps44
    go_wp2_with fail
    go_ret2
    exact ⟨rfl, rfl⟩
  · have hnil := iface_nil T x
    rcases h with h | h
    · go_enter Tryd.func44, Tryd.ntmps44
      go_wp2_with fail
      go_ret2
      exact ⟨rfl, rfl⟩
    · have h2 : ¬ n < 0 := by omega
      go_enter Tryd.func44, Tryd.ntmps44
      go_wp2_with fail
      go_ret2
      exact ⟨rfl, rfl⟩
theorem troot_bad (sv : Value) (n : Int) (w : World) (h : BadArg sv n) : Calls Tryd.prog 18 #[sv, .int .i64 n] w fun e w' => e = .returned (.tuple #[.string ⟨#[]⟩, .int .i64 1]) ∧ Below w.heap.size w w' := by
  go_enter Tryd.func18, Tryd.ntmps18
  go_wp2_with fail
  refine (newReader_bad sv n w h).mono ?_
  rintro e w1 ⟨rfl, rfl⟩
  go_wp2_with fail
  go_ret2
  exact ⟨rfl, Below.refl _ _⟩
theorem tincl_bad (sv : Value) (n i : Int) (w : World) (h : BadArg sv n) : Calls Tryd.prog 20 #[sv, .int .i64 n, .int .i64 i] w fun e w' => e = .returned (.tuple #[.slice none 0 0, .int .i64 1]) ∧ Below w.heap.size w w' := by
  go_enter Tryd.func20, Tryd.ntmps20
  go_wp2_with fail
  refine (newReader_bad sv n _ h).mono ?_
  rintro e w1 ⟨rfl, rfl⟩
  go_wp2_with fail
  go_ret2
  exact ⟨rfl, (Below.refl _ _).alloc (Nat.le_refl _) _⟩
theorem tcons_bad (sv : Value) (n i : Int) (w : World) (h : BadArg sv n) : Calls Tryd.prog 23 #[sv, .int .i64 n, .int .i64 i] w fun e w' => e = .returned (.tuple #[.slice none 0 0, .int .i64 1]) ∧ Below w.heap.size w w' := by
  go_enter Tryd.func23, Tryd.ntmps23
  go_wp2_with fail
  refine (newReader_bad sv n _ h).mono ?_
  rintro e w1 ⟨rfl, rfl⟩
  go_wp2_with fail
  go_ret2
  exact ⟨rfl, (Below.refl _ _).alloc (Nat.le_refl _) _⟩

/-! ### the source that says anything -/
structure WildAt (w : World) (wb : Nat) (ao : Option Addr) (k cap : Nat) (ts : Nat → ByteArray) : Prop where
  blk : w.heap[wb]? = some (.cells #[.slice ao k cap] 56 (0, 0))
  cells : 0 < k → ∃ b off, ao = some ⟨b, off, none⟩ ∧ b ≠ wb ∧ ∀ j, j < k → w.cell? ⟨b, off + j, none⟩ = some (.string (ts j))
theorem WildAt.kp {S : Nat → Prop} {w w' : World} {wb : Nat} {ao : Option Addr} {k cap : Nat} {ts : Nat → ByteArray} (h : WildAt w wb ao k cap ts) (q : Kp S w w') (h1 : ¬ S wb) (h2 : ∀ b, 0 < k → ao.map (·.block) = some b → ¬ S b) : WildAt w' wb ao k cap ts := by
  refine ⟨blk_kp h.blk q h1, fun h0 => ?_⟩
  obtain ⟨b, off, rfl, hb, hc⟩ := h.cells h0
  exact ⟨b, off, rfl, hb, fun j hj => (q.cell (p := ⟨b, off + j, none⟩) (cell_lt (hc j hj)) (h2 b h0 rfl)).trans (hc j hj)⟩
def ansW (k : Nat) (ts : Nat → ByteArray) (p : ByteArray) : ByteArray × Int := if k = 0 then (p, 0) else (ts (p.size % k), 0)

set_option maxRecDepth 100000 in
set_option maxHeartbeats 1000000 in
theorem wild_any (wb : Nat) (ao : Option Addr) (k cap : Nat) (ts : Nat → ByteArray) (p : ByteArray) (w : World) (h : WildAt w wb ao k cap ts) (hk : k ≤ 20) (hp : p.size ≤ 1000000) :
    Calls Tryd.prog 161 #[.pointer (some ⟨wb, 0, none⟩), .string p] w fun e w' => e = .returned (.tuple #[.string (ansW k ts p).1, .int .i64 (ansW k ts p).2]) ∧ Below w.heap.size w w' := by
  have c0 : w.cell? ⟨wb, 0, none⟩ = some (.slice ao k cap) := cell_of_blk h.blk 0 rfl
  by_cases h0 : k = 0
  · subst h0
    clear h
    go_enter Tryd.func161, Tryd.ntmps161
    go_wp2_with fail
    go_ret2
    exact ⟨rfl, Below.refl _ _⟩
  · obtain ⟨b, off, rfl, hb, hc⟩ := h.cells (by omega)
    obtain ⟨r, hr⟩ : ∃ r, r = p.size % k := ⟨_, rfl⟩
    have hrk : r < k := by rw [hr]; exact Nat.mod_lt _ (by omega)
    have hcr := hc r hrk
    have q := cell_regrown c0
    have q2 := cell_regrown hcr
    have hk0 : ¬ (k : Int) = 0 := by omega
    have hrem : (p.size : Int).tmod (k : Int) = (r : Int) := by rw [hr]; rfl
    have hrem2 : IntKind.i64.wrap ((p.size : Int).tmod (k : Int)) = (r : Int) := by rw [hrem]; exact IntWalk.i64_in _ (by omega)
    have hA : ansW k ts p = (ts r, 0) := by unfold ansW; rw [if_neg h0, hr]
    have HA := Lib.hid hA
    clear h hc hr hA
    go_enter Tryd.func161, Tryd.ntmps161
    go_wp2_with fail
    refine wp_region_quiet_below (by kernel_rfl) (by kernel_rfl) ?_
    repeat quiet_step (fail)
    refine wpQuiet_nil ?_
    intro w2 hw2
    obtain ⟨⟨dq, osq⟩, hw''⟩ := hw2
    have hb2 : Below w.heap.size w w2 := by rw [hw'']; exact below_regrown w dq osq
    have HB2 := Lib.hid hb2
    clear hw'' hb2 q q2
    go_wp2_with fail
    go_ret2
    refine ⟨?_, HB2.out⟩
    rw [HA.out]
    rfl
end Go.Proofs.YtobepddifflpdaaDoor
