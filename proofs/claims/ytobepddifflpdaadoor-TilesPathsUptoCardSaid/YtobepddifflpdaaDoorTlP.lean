import Derived.Test.YtobepddifflpdaaDoorTlO
import Derived.Lib.ItoaNum
set_option linter.unusedVariables false
namespace Go.Proofs.YtobepddifflpdaaDoor
open Go Go.RowKit Go.Lib

/-! The document's reading of a path, as a function of its bytes. -/
def isDig (c : UInt8) : Bool := decide (48 ≤ c.toNat) && decide (c.toNat ≤ 57)
def lead : Nat → List UInt8 → Nat
  | 0, _ => 0
  | _ + 1, [] => 0
  | m + 1, c :: t => if isDig c then lead m t + 1 else 0
def valD (l : List UInt8) : Nat := l.foldl (fun n c => 10 * n + (c.toNat - 48)) 0
def digI (s : ByteArray) : Nat := lead 14 s.data.toList
def digBad (s : ByteArray) : Bool := decide (digI s = 0) || (decide (s.data.toList.getD 0 0 = 48) && decide (1 < digI s))
def digV (s : ByteArray) : Int := if digBad s then -1 else valD (s.data.toList.take (digI s))
def digR (s : ByteArray) : ByteArray := if digBad s then ⟨#[]⟩ else s.extract (digI s) s.size
def behindO (s b : ByteArray) : Option ByteArray := if s.extract 0 b.size = b then some (s.extract b.size s.size) else none

def parseT (p : ByteArray) : Option (Int × Int × Int) :=
  match behindO p sTile with
  | none => none
  | some s => match behindO (digR s) sSlash with
    | none => none
    | some s2 => match behindO (digR s2) sP with
      | some q => if digR q = ⟨#[]⟩ ∧ pathT (digV s) (digV s2) (digV q) = p then some (digV s, digV s2, digV q) else none
      | none => if digR s2 = ⟨#[]⟩ ∧ pathT (digV s) (digV s2) 4 = p then some (digV s, digV s2, 4) else none

theorem lead_le : ∀ (m : Nat) (l : List UInt8), lead m l ≤ m ∧ lead m l ≤ l.length
  | 0, l => ⟨Nat.le_refl _, Nat.zero_le _⟩
  | m + 1, [] => ⟨Nat.zero_le _, Nat.zero_le _⟩
  | m + 1, c :: t => by
    have := lead_le m t
    unfold lead
    split
    · rw [List.length_cons]; omega
    · exact ⟨Nat.zero_le _, Nat.zero_le _⟩

theorem lead_app : ∀ (m : Nat) (d r : List UInt8), (∀ c ∈ d, isDig c = true) → d.length ≤ m → (∀ c ∈ r.head?, isDig c = false) → lead m (d ++ r) = d.length
  | 0, d, r, _, h, _ => by
    obtain rfl : d = [] := List.length_eq_zero_iff.1 (by omega)
    rfl
  | m + 1, [], [], _, _, _ => rfl
  | m + 1, [], c :: t, _, _, hr => by
    have : isDig c = false := hr c rfl
    show lead (m + 1) (c :: t) = 0
    rw [lead, this]
    rfl
  | m + 1, c :: d, r, hd, h, hr => by
    rw [List.cons_append, lead, hd c (by simp), if_pos rfl, lead_app m d r (fun x hx => hd x (by simp [hx])) (by simp at h; omega) hr, List.length_cons]

theorem dec_dig : ∀ u : Nat, ∀ c ∈ Lib.decDigits u, isDig c = true := by
  intro u
  induction u using Nat.strongRecOn with
  | _ u ih =>
    intro c hc
    rw [Lib.decDigits] at hc
    split at hc
    · rename_i h
      obtain rfl := List.mem_singleton.1 hc
      have : (UInt8.ofNat (48 + u)).toNat = 48 + u := by simp; omega
      unfold isDig
      rw [this]
      simp; omega
    · rcases List.mem_append.1 hc with h | h
      · exact ih (u / 10) (by omega) c h
      · obtain rfl := List.mem_singleton.1 h
        have : (UInt8.ofNat (48 + u % 10)).toNat = 48 + u % 10 := by simp; omega
        unfold isDig
        rw [this]
        simp; omega

theorem valD_app (l : List UInt8) (c : UInt8) : valD (l ++ [c]) = 10 * valD l + (c.toNat - 48) := by
  unfold valD
  rw [List.foldl_append]
  rfl
theorem valD_dec : ∀ u : Nat, valD (Lib.decDigits u) = u := by
  intro u
  induction u using Nat.strongRecOn with
  | _ u ih =>
    rw [Lib.decDigits]
    split
    · show 10 * 0 + ((UInt8.ofNat (48 + u)).toNat - 48) = u
      have : (UInt8.ofNat (48 + u)).toNat = 48 + u := by simp; omega
      omega
    · rw [valD_app, ih (u / 10) (by omega)]
      have : (UInt8.ofNat (48 + u % 10)).toNat = 48 + u % 10 := by simp; omega
      omega
theorem dec_len_lt : ∀ (k u : Nat), u < 10 ^ (k + 1) → (Lib.decDigits u).length ≤ k + 1
  | 0, u, h => by
    rw [Lib.decDigits, dif_pos (by simpa using h)]
    simp
  | k + 1, u, h => by
    rw [Lib.decDigits]
    split
    · simp
    · have := dec_len_lt k (u / 10) (by rw [Nat.pow_succ] at h; omega)
      rw [List.length_append]
      simp only [List.length_cons, List.length_nil]
      omega
theorem dec_pos (u : Nat) : 1 ≤ (Lib.decDigits u).length := by
  rw [Lib.decDigits]
  split
  · simp
  · simp
/-- a leading zero: the number is 0. -/
theorem dec_head : ∀ u : Nat, u ≠ 0 → (Lib.decDigits u).getD 0 0 ≠ 48 := by
  intro u
  induction u using Nat.strongRecOn with
  | _ u ih =>
    intro h0
    rw [Lib.decDigits]
    split
    · rename_i h
      show UInt8.ofNat (48 + u) ≠ 48
      intro e
      have := congrArg UInt8.toNat e
      have h2 : (UInt8.ofNat (48 + u)).toNat = 48 + u := by simp; omega
      rw [h2] at this
      simp at this
      omega
    · have h1 := ih (u / 10) (by omega) (by omega)
      have hp := dec_pos (u / 10)
      rw [List.getD_eq_getElem?_getD, List.getElem?_append_left (by omega), ← List.getD_eq_getElem?_getD]
      exact h1

def noDig (r : ByteArray) : Prop := ∀ c ∈ r.data.toList.head?, isDig c = false

theorem dig_app (u : Nat) (hu : u < 100000000000000) (r : ByteArray) (hr : noDig r) : digV (itoaB u ++ r) = u ∧ digR (itoaB u ++ r) = r := by
  have hd : (itoaB (u : Int)).data.toList = Lib.decDigits u := by
    unfold itoaB Lib.itoa
    rw [if_neg (by omega)]
    rfl
  have hl : (itoaB u ++ r).data.toList = Lib.decDigits u ++ r.data.toList := by rw [ByteArray.data_append, Array.toList_append, hd]
  have hlen := dec_len_lt 13 u hu
  have hpos := dec_pos u
  have hI : digI (itoaB u ++ r) = (Lib.decDigits u).length := by
    unfold digI
    rw [hl]
    exact lead_app 14 _ _ (dec_dig u) (by omega) hr
  have hbad : digBad (itoaB u ++ r) = false := by
    unfold digBad
    rw [hI, hl, decide_eq_false (by omega), Bool.false_or]
    by_cases h0 : u = 0
    · subst h0
      rw [show (Lib.decDigits 0).length = 1 by rw [Lib.decDigits]; rfl]
      simp
    · have := dec_head u h0
      rw [List.getD_eq_getElem?_getD, List.getElem?_append_left (by omega), ← List.getD_eq_getElem?_getD, decide_eq_false this, Bool.false_and]
  have hs : (itoaB (u : Int)).size = (Lib.decDigits u).length := by
    show (itoaB (u : Int)).data.size = _
    rw [← Array.length_toList, hd]
  constructor
  · unfold digV
    rw [hbad, hI, hl, List.take_left', valD_dec]
    · rfl
    · rfl
  · unfold digR
    rw [hbad, hI, if_neg (by simp), ← hs, ByteArray.extract_append_eq_right rfl (by rw [ByteArray.size_append])]

theorem behind_app (b r : ByteArray) : behindO (b ++ r) b = some r := by
  unfold behindO
  rw [if_pos (ByteArray.extract_append_eq_left rfl), ByteArray.extract_append_eq_right rfl (by rw [ByteArray.size_append])]

theorem behind_nil (b : ByteArray) (h : 0 < b.size) : behindO ⟨#[]⟩ b = none := by
  unfold behindO
  rw [if_neg]
  intro e
  have := congrArg ByteArray.size e
  rw [ByteArray.size_extract] at this
  have h2 : (⟨#[]⟩ : ByteArray).size = 0 := rfl
  omega

theorem parse_path {l i x : Int} (h : fitT l i x = true) : parseT (pathT l i x) = some (l, i, x) := by
  have hbd : 0 ≤ l ∧ l ≤ 30 ∧ 0 ≤ i ∧ i ≤ 1099511627776 ∧ 1 ≤ x ∧ x ≤ 4 := by
    unfold fitT at h
    simp only [Bool.and_eq_true, decide_eq_true_eq] at h
    omega
  obtain ⟨l, rfl⟩ := Int.eq_ofNat_of_zero_le (a := l) (by omega)
  obtain ⟨i, rfl⟩ := Int.eq_ofNat_of_zero_le (a := i) (by omega)
  obtain ⟨x, rfl⟩ := Int.eq_ofNat_of_zero_le (a := x) (by omega)
  have nS : ∀ r, noDig (sSlash ++ r) := by
    intro r c hc
    have : c = 47 := by
      have e : (sSlash ++ r).data.toList = 47 :: r.data.toList := by rw [ByteArray.data_append, Array.toList_append]; rfl
      rw [e] at hc
      simpa using hc.symm
    subst this
    rfl
  have nP : ∀ r, noDig (sP ++ r) := by
    intro r c hc
    have : c = 46 := by
      have e : (sP ++ r).data.toList = 46 :: 112 :: 47 :: r.data.toList := by rw [ByteArray.data_append, Array.toList_append]; rfl
      rw [e] at hc
      simpa using hc.symm
    subst this
    rfl
  have nE : noDig ⟨#[]⟩ := by intro c hc; cases hc
  have hE : ∀ s : ByteArray, s ++ ⟨#[]⟩ = s := fun s => ByteArray.append_empty
  by_cases hx : (x : Int) < 4
  · have hp : pathT l i x = sTile ++ (itoaB l ++ (sSlash ++ (itoaB i ++ (sP ++ (itoaB x ++ ⟨#[]⟩))))) := by
      unfold pathT
      rw [if_pos h, if_pos hx, hE]
      simp only [ByteArray.append_assoc]
    have d1 := dig_app l (by omega) _ (nS (itoaB i ++ (sP ++ (itoaB x ++ ⟨#[]⟩))))
    have d2 := dig_app i (by omega) _ (nP (itoaB x ++ ⟨#[]⟩))
    have d3 := dig_app x (by omega) _ nE
    unfold parseT
    rw [hp, behind_app]
    simp only
    rw [d1.2, behind_app]
    simp only
    rw [d2.2, behind_app]
    simp only
    rw [d3.2, d1.1, d2.1, d3.1, hp, if_pos ⟨rfl, rfl⟩]
  · obtain rfl : x = 4 := by omega
    have hp : pathT l i (4 : Nat) = sTile ++ (itoaB l ++ (sSlash ++ (itoaB i ++ ⟨#[]⟩))) := by
      unfold pathT
      rw [if_pos h, if_neg hx, hE]
      simp only [ByteArray.append_assoc]
    have d1 := dig_app l (by omega) _ (nS (itoaB i ++ ⟨#[]⟩))
    have d2 := dig_app i (by omega) _ nE
    unfold parseT
    rw [hp, behind_app]
    simp only
    rw [d1.2, behind_app]
    simp only
    rw [d2.2, behind_nil _ (by decide)]
    simp only
    rw [d1.1, d2.1]
    have hp' : pathT l i 4 = sTile ++ (itoaB l ++ (sSlash ++ (itoaB i ++ ⟨#[]⟩))) := hp
    rw [hp', if_pos ⟨trivial, rfl⟩]
    rfl
/-! the digits one by one -/
def byteAt (s : ByteArray) (k : Nat) : UInt8 := s.data.toList.getD k 0
theorem drop_at (s : ByteArray) (k : Nat) (h : k < s.size) : s.data.toList.drop k = byteAt s k :: s.data.toList.drop (k + 1) := by
  have hl : k < s.data.toList.length := by rw [Array.length_toList]; exact h
  rw [List.drop_eq_getElem_cons hl]
  congr 1
  unfold byteAt
  rw [List.getD_eq_getElem?_getD, List.getElem?_eq_getElem hl]
  rfl
theorem take_at (s : ByteArray) (k : Nat) (h : k < s.size) : s.data.toList.take (k + 1) = s.data.toList.take k ++ [byteAt s k] := by
  have hl : k < s.data.toList.length := by rw [Array.length_toList]; exact h
  rw [List.take_add_one]
  congr 1
  unfold byteAt
  rw [List.getD_eq_getElem?_getD, List.getElem?_eq_getElem hl]
  rfl
/-- k digits have been read. -/
def DigAt (s : ByteArray) (k : Nat) : Prop := k ≤ s.size ∧ k ≤ 14 ∧ digI s = k + lead (14 - k) (s.data.toList.drop k) ∧ valD (s.data.toList.take k) < 10 ^ k
theorem digAt_zero (s : ByteArray) : DigAt s 0 := ⟨Nat.zero_le _, by omega, by unfold digI; simp, by unfold valD; simp⟩
theorem digAt_next {s : ByteArray} {k : Nat} (h : DigAt s k) (h1 : k < s.size) (h2 : k < 14) (hd : isDig (byteAt s k) = true) : DigAt s (k + 1) ∧ valD (s.data.toList.take (k + 1)) = 10 * valD (s.data.toList.take k) + ((byteAt s k).toNat - 48) := by
  obtain ⟨a1, a2, a3, a4⟩ := h
  have hv : valD (s.data.toList.take (k + 1)) = 10 * valD (s.data.toList.take k) + ((byteAt s k).toNat - 48) := by rw [take_at s k h1, valD_app]
  refine ⟨⟨h1, h2, ?_, ?_⟩, hv⟩
  · rw [a3, drop_at s k h1, show 14 - k = (14 - (k + 1)) + 1 by omega, lead, hd, if_pos rfl]
    omega
  · rw [hv, Nat.pow_succ]
    unfold isDig at hd
    simp only [Bool.and_eq_true, decide_eq_true_eq] at hd
    omega
theorem digAt_end {s : ByteArray} {k : Nat} (h : DigAt s k) (he : k = s.size ∨ k = 14 ∨ (k < s.size ∧ isDig (byteAt s k) = false)) : digI s = k := by
  obtain ⟨a1, a2, a3, a4⟩ := h
  rw [a3]
  rcases he with h | h | ⟨h1, h2⟩
  · have : s.data.toList.drop k = [] := List.drop_eq_nil_of_le (by rw [Array.length_toList]; exact Nat.le_of_eq h.symm)
    rw [this]
    cases 14 - k <;> rfl
  · subst h; rfl
  · rw [drop_at s k h1]
    cases 14 - k with
    | zero => rfl
    | succ m => rw [lead, h2]; rfl
end Go.Proofs.YtobepddifflpdaaDoor
