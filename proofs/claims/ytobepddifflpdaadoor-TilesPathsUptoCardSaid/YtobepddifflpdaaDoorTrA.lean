import Derived.Test.YtobepddifflpdaaDoorShaJ
import Derived.Lib.QuietBelow
set_option linter.unusedVariables false
namespace Go.Proofs.YtobepddifflpdaaDoor
open Go Go.RowKit Go.Lib Go.Sort

/-- the greatest power of two below n (n from 2 on). -/
def pw (n : Nat) : Nat := 2 ^ Nat.log2 (n - 1)
theorem pw_lt {n : Nat} (h : 2 ≤ n) : pw n < n := by
  have := Nat.log2_self_le (n := n - 1) (by omega)
  unfold pw
  omega
theorem pw_pos (n : Nat) : 0 < pw n := Nat.two_pow_pos _
theorem pw_le {n : Nat} (h : 2 ≤ n) : n ≤ 2 * pw n := by
  have := Nat.lt_log2_self (n := n - 1)
  unfold pw
  rw [Nat.pow_succ] at this
  omega
theorem pw_eq {n k : Nat} (j : Nat) (h : 2 ≤ n) (hk : k = 2 ^ j) (h1 : k < n) (h2 : n ≤ 2 * k) : k = pw n := by
  unfold pw
  have hne : n - 1 ≠ 0 := by omega
  have : Nat.log2 (n - 1) = j := by
    refine (Nat.log2_eq_iff hne).2 ⟨?_, ?_⟩
    · omega
    · rw [Nat.pow_succ]; omega
  rw [this, hk]

/-- the hash over n texts from a place on. -/
def rootL (ps : Nat → ByteArray) (a n : Nat) : ByteArray :=
  if h0 : n = 0 then shaB ⟨#[]⟩ else if h1 : n = 1 then ps a else
    have := pw_lt (n := n) (by omega)
    have := pw_pos n
    nodeB (rootL ps a (pw n)) (rootL ps (a + pw n) (n - pw n))
termination_by n
decreasing_by all_goals omega

theorem rootL_two (ps : Nat → ByteArray) (a n : Nat) (h : 2 ≤ n) : rootL ps a n = nodeB (rootL ps a (pw n)) (rootL ps (a + pw n) (n - pw n)) := by
  rw [rootL, dif_neg (by omega), dif_neg (by omega)]
theorem rootL_one (ps : Nat → ByteArray) (a : Nat) : rootL ps a 1 = ps a := by
  rw [rootL, dif_neg (by omega), dif_pos rfl]
theorem rootL_zero (ps : Nat → ByteArray) (a : Nat) : rootL ps a 0 = shaB ⟨#[]⟩ := by
  rw [rootL, dif_pos rfl]

theorem shaB_size (s : ByteArray) : (shaB s).size = 32 := outN_size _ 8
theorem rootL_size (ps : Nat → ByteArray) (a n : Nat) (h : ∀ i, (ps i).size ≤ 10000000000) : (rootL ps a n).size ≤ 10000000000 := by
  by_cases h0 : n = 0
  · subst h0; rw [rootL_zero, shaB_size]; omega
  · by_cases h1 : n = 1
    · subst h1; rw [rootL_one]; exact h _
    · rw [rootL_two ps a n (by omega), nodeB, shaB_size]; omega


def PowRel (n : Nat) (w : World) (k : Value) (wr : World) : Prop := ∃ j : Nat, k = .int .i64 ((2 ^ j : Nat) : Int) ∧ 2 ^ j < n ∧ wr = w

set_option maxRecDepth 100000 in
theorem power_any (n : Nat) (w : World) (h : 2 ≤ n) (h2 : n ≤ 1000000000000) :
    Calls Tryd.prog 47 #[.int .i64 n] w fun e w' => e = .returned (.int .i64 (pw n)) ∧ w' = w := by
  go_enter Tryd.func47, Tryd.ntmps47
  go_wp2_with fail
  go_loopw [3] (fun k wr => PowRel n w k wr) (fun k _ => n - (intOf k).toNat)
  case atStart => exact ⟨0, rfl, by omega, rfl⟩
  case round =>
    obtain ⟨j, rfl, hj, rfl⟩ := hrel
    have hpos : 0 < 2 ^ j := Nat.two_pow_pos j
    obtain ⟨k, hk⟩ : ∃ k, k = 2 ^ j := ⟨_, rfl⟩
    rw [← hk] at hj hpos ⊢
    have Hk := Lib.hid hk
    clear hk
    by_cases hlt : k < n - k
    · have hc : (k : Int) < (n : Int) - (k : Int) := by omega
      go_wp2_with fail
      refine ⟨⟨j + 1, ?_, ?_, rfl⟩, ?_⟩
      · rw [Nat.pow_succ, ← Hk.out]; congr 1; omega
      · rw [Nat.pow_succ, ← Hk.out]; omega
      · show n - (2 * (k : Int)).toNat < n - (k : Int).toNat
        omega
    · have hc : ¬ (k : Int) < (n : Int) - (k : Int) := by omega
      go_wp2_with fail
      go_ret
      refine ⟨?_, rfl⟩
      rw [← pw_eq (n := n) (k := k) j h Hk.out hj (by omega)]
      rfl

def StrArg (w : World) (pb po n cap : Nat) (ps : Nat → ByteArray) : Prop := n ≤ cap ∧ ∀ i, i < n → w.cell? ⟨pb, po + i, none⟩ = some (.string (ps (po + i)))

set_option maxRecDepth 100000 in
set_option maxHeartbeats 1000000 in
theorem refroot_any : ∀ (n : Nat) (pb po cap : Nat) (ps : Nat → ByteArray) (w : World), 1 ≤ n → n ≤ cap → n ≤ 100000000 ∧ cap ≤ 9223372036854775807 → (∀ i, i < n → w.cell? ⟨pb, po + i, none⟩ = some (.string (ps (po + i)))) → (∀ i, (ps i).size ≤ 10000000000) →
    Calls Tryd.prog 19 #[.slice (some ⟨pb, po, none⟩) n cap] w fun e w' => e = .returned (.string (rootL ps po n)) ∧ Below w.heap.size w w' := by
  intro n
  induction n using Nat.strongRecOn with
  | _ n ih =>
    intro pb po cap ps w h1 hcap hc2 hcell hsz
    have Hc := Lib.hid hcell
    have Hs := Lib.hid hsz
    have IH := Lib.hid ih
    clear hcell hsz ih
    by_cases hone : n = 1
    · subst hone
      have hc0 : w.cell? ⟨pb, po, none⟩ = some (.string (ps po)) := Hc.out 0 (by omega)
      go_enter Tryd.func19, Tryd.ntmps19
      go_wp2_with fail
      go_ret
      exact ⟨by rw [rootL_one]; rfl, Below.refl _ _⟩
    · have h2 : 2 ≤ n := by omega
      go_enter Tryd.func19, Tryd.ntmps19
      go_wp2_with fail
      refine (power_any n w h2 (by omega)).mono ?_
      rintro e w1 ⟨rfl, rfl⟩
      have hk1 := pw_lt h2
      have hk0 := pw_pos n
      have cL : ∀ d os, Calls Tryd.prog 19 #[.slice (some ⟨pb, po, none⟩) (pw n) cap] (grow (redrawn w1 d) os) fun e w'' => e = .returned (.string (rootL ps po (pw n))) ∧ ∃ p : Regrown, w'' = grow (redrawn w1 p.d) p.os :=
        fun d os => Calls.regrown_of (IH.out (pw n) hk1 pb po cap ps _ hk0 (by omega) (by omega) (fun i hi => cell_regrown (Hc.out i (by omega)) d os) Hs.out)
      have cR : ∀ d os, Calls Tryd.prog 19 #[.slice (some ⟨pb, po + pw n, none⟩) (n - pw n) (cap - pw n)] (grow (redrawn w1 d) os) fun e w'' => e = .returned (.string (rootL ps (po + pw n) (n - pw n))) ∧ ∃ p : Regrown, w'' = grow (redrawn w1 p.d) p.os :=
        fun d os => Calls.regrown_of (IH.out (n - pw n) (by omega) pb (po + pw n) (cap - pw n) ps _ (by omega) (by omega) (by omega) (fun i hi => cell_regrown (by rw [Nat.add_assoc]; exact Hc.out (pw n + i) (by omega)) d os) Hs.out)
      have cN : ∀ d os, Calls Tryd.prog 48 #[.string (rootL ps po (pw n)), .string (rootL ps (po + pw n) (n - pw n))] (grow (redrawn w1 d) os) fun e w'' => e = .returned (.string (nodeB (rootL ps po (pw n)) (rootL ps (po + pw n) (n - pw n)))) ∧ ∃ p : Regrown, w'' = grow (redrawn w1 p.d) p.os :=
        fun d os => Calls.regrown_of (refnode_any _ _ _ (rootL_size ps _ _ Hs.out) (rootL_size ps _ _ Hs.out))
      go_wp2_with fail
      refine wp_region_quiet_below (by kernel_rfl) (by kernel_rfl) ?_
      have hc3 : pw n ≤ cap := by omega
      have hc4 : pw n ≤ n := by omega
      have hne : ¬ cap = pw n := by omega
      repeat quiet_step (first | with_reducible exact cL _ _ | with_reducible exact cR _ _ | with_reducible exact cN _ _)
      refine wpQuiet_nil ?_
      intro _ hw'
      obtain ⟨⟨dq, osq⟩, hw''⟩ := hw'
      subst hw''
      clear cL cR cN
      go_wp2_with fail
      go_ret
      exact ⟨by rw [rootL_two ps po n h2]; rfl, below_regrown w1 dq osq⟩
end Go.Proofs.YtobepddifflpdaaDoor
