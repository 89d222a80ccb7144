import Derived.Test.YtmejjphliaiamaaGreatDoorNoJ
import Derived.Deep.RegionLaw
set_option linter.unusedVariables false
set_option linter.unusedSimpArgs false
namespace Go.Proofs.YtmejjphliaiamaaGreatDoor
open Go Go.RowKit Go.Lib

/-! ### a note's bytes -/
def sigW : ByteArray := ⟨#[115, 105, 103, 32]⟩
def spB : ByteArray := ⟨#[32]⟩
def sigLine (x : SigT) : ByteArray := sigW ++ hexB x.1 ++ spB ++ hexB x.2 ++ nlB
def sigsT : List SigT → ByteArray
  | [] => ⟨#[]⟩
  | x :: r => sigLine x ++ sigsT r
theorem sigsT_snoc (l : List SigT) (x : SigT) : sigsT (l ++ [x]) = sigsT l ++ sigLine x := by
  induction l with
  | nil => show sigLine x ++ (⟨#[]⟩ : ByteArray) = ⟨#[]⟩ ++ sigLine x; apply ba_ext; simp
  | cons y r ih => show sigLine y ++ sigsT (r ++ [x]) = sigLine y ++ sigsT r ++ sigLine x; rw [ih, ByteArray.append_assoc]
theorem sigLine_size (x : SigT) : (sigLine x).size = 6 + 2 * x.1.size + 2 * x.2.size := by
  unfold sigLine
  simp only [ByteArray.size_append, hexB_size]
  have e1 : sigW.size = 4 := rfl
  have e2 : spB.size = 1 := rfl
  have e3 : nlB.size = 1 := rfl
  omega
def fmtV (t : ByteArray) (L : List SigT) : ByteArray × Int := if noteG t L = true then (t ++ nlB ++ sigsT L, 0) else (⟨#[]⟩, 1)
theorem fmtV_bad {t : ByteArray} {L : List SigT} (h : noteG t L = false) : fmtV t L = (⟨#[]⟩, 1) := by unfold fmtV; rw [h]; rfl
theorem fmtV_good {t : ByteArray} {L : List SigT} (h : noteG t L = true) : fmtV t L = (t ++ nlB ++ sigsT L, 0) := by unfold fmtV; rw [if_pos h]
theorem good_sigs {t : ByteArray} {L : List SigT} (h : noteG t L = true) : L.length ≤ 16 ∧ ∀ x ∈ L, x.1.size = 32 ∧ 1 ≤ x.2.size ∧ x.2.size ≤ 1024 := by
  unfold noteG at h
  simp only [Bool.and_eq_true, decide_eq_true_eq, Bool.not_eq_true', List.any_eq_false] at h
  obtain ⟨h1, -, -, -, h5⟩ := h
  refine ⟨h1, fun x hx => ?_⟩
  have := h5 x hx
  unfold sigBad at this
  simp only [Bool.or_eq_true, Bool.not_eq_true', decide_eq_true_eq, decide_eq_false_iff_not, not_or, Classical.not_not] at this
  omega
theorem sigsT_le (l : List SigT) (h : ∀ x ∈ l, x.1.size = 32 ∧ 1 ≤ x.2.size ∧ x.2.size ≤ 1024) : (sigsT l).size ≤ 3000 * l.length := by
  induction l with
  | nil => exact Nat.zero_le _
  | cons x r ih =>
    show (sigLine x ++ sigsT r).size ≤ _
    have h1 := ih fun y hy => h y (by simp [hy])
    have h2 := h x (by simp)
    rw [ByteArray.size_append, sigLine_size, List.length_cons]
    omega
end Go.Proofs.YtmejjphliaiamaaGreatDoor
