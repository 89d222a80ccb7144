import Derived.Test.YtobepddifflpdaaDoorTlD
import Derived.Test.YtobepddifflpdaaDoorTlP
set_option linter.unusedVariables false
namespace Go.Proofs.YtobepddifflpdaaDoor
open Go Go.RowKit Go.Lib Go.Sort

/-- the node number k of a height, out of the hashes. -/
def nodeL (ps : Nat → ByteArray) (h k : Nat) : ByteArray := rootL ps (k * 2 ^ h) (2 ^ h)
theorem pw_pow (h : Nat) : pw (2 ^ (h + 1)) = 2 ^ h := by
  refine (pw_eq (n := 2 ^ (h + 1)) (k := 2 ^ h) h ?_ rfl ?_ ?_).symm
  · rw [Nat.pow_succ]; have := Nat.two_pow_pos h; omega
  · rw [Nat.pow_succ]; have := Nat.two_pow_pos h; omega
  · rw [Nat.pow_succ]; omega
theorem nodeL_succ (ps : Nat → ByteArray) (h k : Nat) : nodeL ps (h + 1) k = nodeB (nodeL ps h (2 * k)) (nodeL ps h (2 * k + 1)) := by
  have hp := Nat.two_pow_pos h
  unfold nodeL
  rw [rootL_two ps _ (2 ^ (h + 1)) (by rw [Nat.pow_succ]; omega), pw_pow, Nat.pow_succ]
  congr 2
  · rw [Nat.mul_comm (2 ^ h) 2, ← Nat.mul_assoc, Nat.mul_comm k 2]
  · rw [Nat.mul_comm (2 ^ h) 2, ← Nat.mul_assoc, Nat.mul_comm k 2, Nat.add_mul, Nat.one_mul]
  · omega

/-- the root of n leaves from a place on, out of nodes. -/
def rootV (V : Nat → Nat → ByteArray) (a n : Nat) : ByteArray :=
  if h0 : n = 0 then shaB ⟨#[]⟩ else if h1 : n = 2 ^ Nat.log2 n then V (Nat.log2 n) (a / n) else
    have : 2 ≤ n := by
      rcases Nat.lt_or_ge n 2 with h | h
      · exfalso
        obtain rfl : n = 1 := by omega
        exact h1 (by decide)
      · exact h
    have := pw_lt (n := n) (by omega)
    have := pw_pos n
    nodeB (rootV V a (pw n)) (rootV V (a + pw n) (n - pw n))
termination_by n
decreasing_by all_goals omega

theorem rootV_zero (V : Nat → Nat → ByteArray) (a : Nat) : rootV V a 0 = shaB ⟨#[]⟩ := by rw [rootV, dif_pos rfl]
theorem rootV_pow (V : Nat → Nat → ByteArray) (a j : Nat) : rootV V a (2 ^ j) = V j (a / 2 ^ j) := by
  have := Nat.two_pow_pos j
  rw [rootV, dif_neg (by omega), dif_pos (by rw [Nat.log2_two_pow]), Nat.log2_two_pow]
theorem log2_of {n j : Nat} (h1 : 2 ^ j ≤ n) (h2 : n < 2 ^ (j + 1)) : Nat.log2 n = j := by
  have := Nat.two_pow_pos j
  exact (Nat.log2_eq_iff (by omega)).2 ⟨h1, h2⟩
/-- n lies between two powers. -/
theorem between (n : Nat) (h : 1 ≤ n) : 2 ^ Nat.log2 n ≤ n ∧ n < 2 ^ (Nat.log2 n + 1) := ⟨Nat.log2_self_le (by omega), Nat.lt_log2_self⟩
theorem pw_of {n j : Nat} (h1 : 2 ^ j < n) (h2 : n ≤ 2 ^ (j + 1)) : pw n = 2 ^ j := by
  have := Nat.two_pow_pos j
  exact (pw_eq j (by omega) rfl h1 (by rw [Nat.pow_succ] at h2; omega)).symm
theorem rootV_two (V : Nat → Nat → ByteArray) (a n j : Nat) (h1 : 2 ^ j < n) (h2 : n < 2 ^ (j + 1)) : rootV V a n = nodeB (rootV V a (2 ^ j)) (rootV V (a + 2 ^ j) (n - 2 ^ j)) := by
  have hl := log2_of (Nat.le_of_lt h1) h2
  have := Nat.two_pow_pos j
  rw [rootV, dif_neg (by omega), dif_neg (by rw [hl]; omega)]
  show nodeB (rootV V a (pw n)) (rootV V (a + pw n) (n - pw n)) = _
  rw [pw_of h1 (by omega)]

/-- a cut of the tree: n leaves from a on. -/
def Cut (a n : Nat) : Prop := ∃ j, n ≤ 2 ^ j ∧ 2 ^ j ∣ a
theorem cut_zero (n : Nat) : Cut 0 n := ⟨n, Nat.le_of_lt Nat.lt_two_pow_self, Nat.dvd_zero _⟩
theorem cut_left {a n j : Nat} (h : Cut a n) (h1 : 2 ^ j < n) : Cut a (2 ^ j) ∧ 2 ^ j ∣ a := by
  obtain ⟨i, hi, hd⟩ := h
  have hji : j ≤ i := by
    rcases Nat.lt_or_ge i j with h | h
    · have := Nat.pow_le_pow_right (n := 2) (by omega) (Nat.le_of_lt h); omega
    · exact h
  have : 2 ^ j ∣ a := Nat.dvd_trans (Nat.pow_dvd_pow 2 hji) hd
  exact ⟨⟨j, Nat.le_refl _, this⟩, this⟩
theorem cut_right {a n j : Nat} (h : Cut a n) (h1 : 2 ^ j < n) (h2 : n ≤ 2 ^ (j + 1)) : Cut (a + 2 ^ j) (n - 2 ^ j) := by
  have h3 := (cut_left h h1).2
  refine ⟨j, ?_, Nat.dvd_add h3 (Nat.dvd_refl _)⟩
  rw [Nat.pow_succ] at h2
  omega
theorem cut_pow {a j : Nat} (h : Cut a (2 ^ j)) : 2 ^ j ∣ a := by
  obtain ⟨i, hi, hd⟩ := h
  have hji : j ≤ i := by
    rcases Nat.lt_or_ge i j with h | h
    · have h2 := Nat.pow_lt_pow_right (a := 2) (by omega) h; omega
    · exact h
  exact Nat.dvd_trans (Nat.pow_dvd_pow 2 hji) hd

theorem rootV_nodeL (ps : Nat → ByteArray) : ∀ n a, Cut a n → rootV (nodeL ps) a n = rootL ps a n := by
  intro n
  induction n using Nat.strongRecOn with
  | _ n ih =>
    intro a hc
    by_cases h0 : n = 0
    · subst h0; rw [rootV_zero, rootL_zero]
    · obtain ⟨hb1, hb2⟩ := between n (by omega)
      generalize Nat.log2 n = j at hb1 hb2
      have hp := Nat.two_pow_pos j
      by_cases h1 : n = 2 ^ j
      · subst h1
        rw [rootV_pow, nodeL, Nat.div_mul_cancel (cut_pow hc)]
      · have hlt : 2 ^ j < n := by omega
        rw [rootV_two _ a n j hlt hb2, rootL_two ps a n (by omega), pw_of hlt (by omega), ih _ hlt a (cut_left hc hlt).1, ih _ (by omega) _ (cut_right hc hlt (by omega))]

/-! a tile's text, part by part -/
theorem makeT_size (ps : Nat → ByteArray) (z fr : Nat) (hps : ∀ i, (ps i).size = 32) (hz : 0 < z) : ∀ x, (makeT ps z fr x).size = 32 * x
  | 0 => rfl
  | x + 1 => by
    have h32 : ∀ a, (rootL ps a z).size = 32 := by
      intro a
      by_cases h1 : z = 1
      · subst h1; rw [rootL_one]; exact hps _
      · rw [rootL_two ps a z (by omega), nodeB, shaB_size]
    rw [makeT, ByteArray.size_append, makeT_size ps z fr hps hz x, h32]
    omega
theorem makeT_part (ps : Nat → ByteArray) (z fr : Nat) (hps : ∀ i, (ps i).size = 32) (hz : 0 < z) : ∀ x j, j < x → (makeT ps z fr x).extract (32 * j) (32 * j + 32) = rootL ps (z * (fr + j)) z
  | 0, j, h => absurd h (by omega)
  | x + 1, j, h => by
    have h32 : ∀ a, (rootL ps a z).size = 32 := by
      intro a
      by_cases h1 : z = 1
      · subst h1; rw [rootL_one]; exact hps _
      · rw [rootL_two ps a z (by omega), nodeB, shaB_size]
    have hs := makeT_size ps z fr hps hz x
    rw [makeT]
    by_cases hj : j < x
    · rw [← makeT_part ps z fr hps hz x j hj]
      ext1
      rw [ByteArray.data_extract, ByteArray.data_append, ByteArray.data_extract]
      have hd : (makeT ps z fr x).data.size = 32 * x := hs
      rw [Array.extract_append, Array.extract_empty_of_stop_le_start (xs := (rootL ps (z * (fr + x)) z).data) (by omega), Array.append_empty]
    · obtain rfl : j = x := by omega
      exact ByteArray.extract_append_eq_right hs.symm (by rw [hs, h32])
end Go.Proofs.YtobepddifflpdaaDoor
