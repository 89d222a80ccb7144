import Derived.Test.YtobepddifflpdaaDoorTrA
set_option linter.unusedVariables false
namespace Go.Proofs.YtobepddifflpdaaDoor
open Go Go.RowKit Go.Lib Go.Sort

/-- one level up: the pairs of N texts. -/
def pr (f : Nat → ByteArray) (N : Nat) : Nat → ByteArray := fun i => if 2 * i + 1 < N then nodeB (f (2 * i)) (f (2 * i + 1)) else f (2 * i)

theorem pw_two_mul {n : Nat} (h : 3 ≤ n) : pw n = 2 * pw ((n + 1) / 2) := by
  have h1 := pw_lt (n := (n + 1) / 2) (by omega)
  have h2 := pw_le (n := (n + 1) / 2) (by omega)
  refine (pw_eq (n := n) (Nat.log2 ((n + 1) / 2 - 1) + 1) (by omega) ?_ ?_ ?_).symm
  · rw [Nat.pow_succ, pw, Nat.mul_comm]
  · omega
  · omega
theorem pw_two : pw 2 = 1 := by decide

theorem rootL_pr (f : Nat → ByteArray) (N : Nat) : ∀ (n a : Nat), 1 ≤ n → 2 * a + n ≤ N → (n % 2 = 0 ∨ 2 * a + n = N) → rootL f (2 * a) n = rootL (pr f N) a ((n + 1) / 2) := by
  intro n
  induction n using Nat.strongRecOn with
  | _ n ih =>
    intro a h1 hN hev
    by_cases e1 : n = 1
    · subst e1
      rw [rootL_one, show (1 + 1) / 2 = 1 from rfl, rootL_one, pr, if_neg (by omega)]
    · by_cases e2 : n = 2
      · subst e2
        rw [rootL_two f _ 2 (by omega), pw_two, rootL_one, show 2 - 1 = 1 from rfl, rootL_one, show (2 + 1) / 2 = 1 from rfl, rootL_one, pr, if_pos (by omega)]
      · have h3 : 3 ≤ n := by omega
        have hp := pw_two_mul h3
        have hlt := pw_lt (n := n) (by omega)
        have hlt2 := pw_lt (n := (n + 1) / 2) (by omega)
        have hpos := pw_pos ((n + 1) / 2)
        rw [rootL_two f _ n (by omega), rootL_two (pr f N) a ((n + 1) / 2) (by omega)]
        rw [ih (pw n) hlt a (by omega) (by omega) (Or.inl (by omega))]
        rw [show 2 * a + pw n = 2 * (a + pw ((n + 1) / 2)) by omega]
        rw [ih (n - pw n) (by omega) (a + pw ((n + 1) / 2)) (by omega) (by omega) (by omega)]
        rw [show (pw n + 1) / 2 = pw ((n + 1) / 2) by omega, show (n - pw n + 1) / 2 = (n + 1) / 2 - pw ((n + 1) / 2) by omega]

theorem rootL_congr {f g : Nat → ByteArray} : ∀ (n a : Nat), (∀ i, a ≤ i → i < a + n → f i = g i) → rootL f a n = rootL g a n := by
  intro n
  induction n using Nat.strongRecOn with
  | _ n ih =>
    intro a h
    by_cases e0 : n = 0
    · subst e0; rw [rootL_zero, rootL_zero]
    · by_cases e1 : n = 1
      · subst e1; rw [rootL_one, rootL_one]; exact h a (Nat.le_refl _) (by omega)
      · have hlt := pw_lt (n := n) (by omega)
        have hpos := pw_pos n
        rw [rootL_two f a n (by omega), rootL_two g a n (by omega), ih (pw n) hlt a (fun i h1 h2 => h i h1 (by omega)), ih (n - pw n) (by omega) (a + pw n) (fun i h1 h2 => h i (by omega) (by omega))]
end Go.Proofs.YtobepddifflpdaaDoor
