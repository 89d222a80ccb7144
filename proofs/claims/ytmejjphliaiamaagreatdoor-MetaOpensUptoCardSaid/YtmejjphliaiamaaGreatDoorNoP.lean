import Derived.Test.YtmejjphliaiamaaGreatDoorNoA
import Derived.Test.YtmejjphliaiamaaGreatDoorVa
import Derived.Lib.SplitLaws
set_option linter.unusedVariables false
set_option linter.unusedSimpArgs false
namespace Go.Proofs.YtmejjphliaiamaaGreatDoor
open Go Go.RowKit Go.Lib

/-! ### a checkpoint's text, without memory -/
def nlB : ByteArray := ⟨#[10]⟩
def headW : ByteArray := ⟨#[111, 115, 116, 108, 101, 114, 32, 99, 104, 101, 99, 107, 112, 111, 105, 110, 116]⟩
def cpGood (o : ByteArray) (n : Int) (r : ByteArray) : Bool := origG o && (decide (0 ≤ n) && (decide (n ≤ 1024) && decide (r.size = 32)))
def cpT (o : ByteArray) (n : Int) (r : ByteArray) : ByteArray := headW ++ nlB ++ o ++ nlB ++ itoaB n ++ nlB ++ hexB r ++ nlB
def cpV (o : ByteArray) (n : Int) (r : ByteArray) : ByteArray × Int := if cpGood o n r = true then (cpT o n r, 0) else (⟨#[]⟩, 1)
theorem join5 (o : ByteArray) (n : Int) (r : ByteArray) : Lib.join ([headW, o, itoaB n, hexB r, ⟨#[]⟩].map (·.data.toList)) [10] = (cpT o n r).data.toList := by
  unfold cpT
  simp [Lib.join, nlB, List.append_assoc]
theorem itoa_small (n : Int) (h0 : 0 ≤ n) (h1 : n ≤ 1024) : (Lib.itoa n).length ≤ 4 ∧ (∀ c ∈ Lib.itoa n, c ≠ 10) ∧ atoiR (itoaB n) = (n, true) := by
  have : ∀ k : Fin 1025, (Lib.itoa ((k.1 : Nat) : Int)).length ≤ 4 ∧ (∀ c ∈ Lib.itoa ((k.1 : Nat) : Int), c ≠ 10) ∧ atoiR (itoaB ((k.1 : Nat) : Int)) = (((k.1 : Nat) : Int), true) := by decide +kernel
  obtain ⟨k, rfl⟩ := Int.eq_ofNat_of_zero_le h0
  exact this ⟨k, by omega⟩
theorem cpT_size (o : ByteArray) (n : Int) (r : ByteArray) (h : cpGood o n r = true) : (cpT o n r).size ≤ 200 := by
  unfold cpGood origG at h
  simp only [Bool.and_eq_true, decide_eq_true_eq] at h
  obtain ⟨⟨⟨h1, h2⟩, h3⟩, h4, h5, h6⟩ := h
  have hi := (itoa_small n h4 h5).1
  have e1 : (itoaB n).size = (Lib.itoa n).length := by simp [itoaB, ByteArray.size]
  have e2 : (hexB r).size = 2 * r.size := by
    have h7 := hexL_length r.data.toList
    have h8 : r.data.toList.length = r.size := Array.length_toList
    show (hexL r.data.toList).length = _
    omega
  unfold cpT
  simp only [ByteArray.size_append, e1, e2, h6]
  have e3 : headW.size = 17 := rfl
  have e4 : nlB.size = 1 := rfl
  omega

/-! ### cut at every newline -/
def cutsL : List UInt8 → List (List UInt8)
  | [] => [[]]
  | c :: r => if c = 10 then [] :: cutsL r else match cutsL r with
    | p :: q => (c :: p) :: q
    | [] => [[c]]
theorem cutsL_ne (l : List UInt8) : cutsL l ≠ [] := by
  cases l with
  | nil => simp [cutsL]
  | cons c r =>
    unfold cutsL
    split
    · simp
    · split <;> simp
theorem cutsL_clean : ∀ (p : List UInt8), (∀ c ∈ p, c ≠ 10) → cutsL p = [p]
  | [], _ => rfl
  | c :: r, h => by
    have hc := h c (by simp)
    unfold cutsL
    rw [if_neg hc, cutsL_clean r (fun d hd => h d (by simp [hd]))]
theorem cutsL_app : ∀ (p r : List UInt8), (∀ c ∈ p, c ≠ 10) → cutsL (p ++ 10 :: r) = p :: cutsL r
  | [], r, _ => by simp [cutsL]
  | c :: p, r, h => by
    have hc := h c (by simp)
    rw [List.cons_append, cutsL, if_neg hc, cutsL_app p r (fun d hd => h d (by simp [hd]))]
theorem split_nl (s : List UInt8) : Lib.split s [10] = cutsL s := by
  induction s with
  | nil => simp [Lib.split, cutsL, Lib.count_one, Lib.splitK]
  | cons c r ih =>
    unfold Lib.split at ih ⊢
    by_cases hc : c = 10
    · subst hc
      have hix : index (10 :: r) [10] = 0 := by rw [index]; simp [List.isPrefixOf]
      rw [count_cons_eq, Nat.add_comm, Lib.splitK, hix, cutsL, if_pos rfl]
      simpa using ih
    · have hp : ([10] : List UInt8).isPrefixOf (c :: r) = false := by simp [List.isPrefixOf, Ne.symm hc]
      have hix : index (c :: r) [10] = if index r [10] == -1 then -1 else index r [10] + 1 := by rw [index, hp]; simp
      rw [count_cons_ne c 10 r hc, cutsL, if_neg hc, ← ih]
      by_cases hm : index r [10] = -1
      · have hcn : count r [10] = 0 := count_miss hm
        rw [hcn]
        simp [Lib.splitK]
      · have hge := index_ge r [10]
        obtain ⟨j, hj⟩ : ∃ j : Nat, index r [10] = j := ⟨(index r [10]).toNat, by omega⟩
        have hk := count_hit (by simp) hj
        obtain ⟨m, hm2⟩ : ∃ m, count r [10] = m + 1 := ⟨count r [10] - 1, by omega⟩
        have hix' : index (c :: r) [10] = ((j + 1 : Nat) : Int) := by rw [hix, if_neg (fun e => hm (beq_iff_eq.1 e)), hj]; omega
        have hb1 : ¬ (((j + 1 : Nat) : Int) == -1) = true := fun e => by have := beq_iff_eq.1 e; omega
        have hb2 : ¬ (((j : Nat) : Int) == -1) = true := fun e => by have := beq_iff_eq.1 e; omega
        rw [hm2, Lib.splitK, Lib.splitK, hix', hj, if_neg hb1, if_neg hb2]
        simp
end Go.Proofs.YtmejjphliaiamaaGreatDoor
