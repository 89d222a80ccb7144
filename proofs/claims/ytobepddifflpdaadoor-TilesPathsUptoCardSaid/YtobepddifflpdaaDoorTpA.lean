import Derived.Test.YtobepddifflpdaaDoorTlR
import Derived.Lib.AtoiAll
import Derived.Lib.IndexMore
import Derived.Lib.Strings
set_option linter.unusedVariables false
namespace Go.Proofs.YtobepddifflpdaaDoor
open Go Go.RowKit Go.Lib

/-! the program's way to read a path -/
def atoiV (l : List UInt8) : Int := match Lib.atoiAll l with
  | .ok v => v
  | .range => Lib.atoiSat l
  | _ => 0
theorem parse10_ok : ∀ (l : List UInt8) (acc : Nat), (∀ c ∈ l, isDig c = true) → l.foldl (fun n c => 10 * n + (c.toNat - 48)) acc < 9223372036854775808 →
    Lib.parseUint10 acc l = .ok (l.foldl (fun n c => 10 * n + (c.toNat - 48)) acc)
  | [], acc, _, _ => rfl
  | c :: l, acc, hd, h => by
    have hc := hd c (by simp)
    unfold isDig at hc
    rw [Bool.and_eq_true, decide_eq_true_eq, decide_eq_true_eq] at hc
    have hmono : ∀ (l : List UInt8) (a : Nat), a ≤ l.foldl (fun n c => 10 * n + (c.toNat - 48)) a := by
      intro l
      induction l with
      | nil => intro a; exact Nat.le_refl _
      | cons d l ih => intro a; have := ih (10 * a + (d.toNat - 48)); rw [List.foldl_cons]; omega
    rw [List.foldl_cons] at h ⊢
    have h1 := hmono l (10 * acc + (c.toNat - 48))
    have ih := parse10_ok l (10 * acc + (c.toNat - 48)) (fun d hd' => hd d (by simp [hd'])) h
    rw [Lib.parseUint10, if_pos hc, if_neg (by omega), if_neg (by omega), show acc * 10 + (c.toNat - 48) = 10 * acc + (c.toNat - 48) by omega]
    exact ih
theorem atoiV_dec (u : Nat) (h : u < 9223372036854775808) : atoiV (Lib.decDigits u) = u := by
  have hne := dec_pos u
  have hd := dec_dig u
  have hv := valD_dec u
  have hall : Lib.atoiAll (Lib.decDigits u) = .ok (u : Int) := by
    generalize Lib.decDigits u = l at *
    cases l with
    | nil => simp at hne
    | cons c r =>
      have hc := hd c (by simp)
      unfold isDig at hc
      rw [Bool.and_eq_true, decide_eq_true_eq, decide_eq_true_eq] at hc
      have hp : Lib.parseMag (c :: r) = .ok u := by
        unfold Lib.parseMag
        rw [if_neg (by simp), parse10_ok (c :: r) 0 hd (by unfold valD at hv; omega)]
        unfold valD at hv
        rw [hv]
      unfold Lib.atoiAll
      simp only
      rw [if_neg (show ¬ (c.toNat = 43 ∨ c.toNat = 45) by omega), hp]
      simp only
      rw [if_neg (by omega), if_neg (by omega), if_neg (by omega)]
  unfold atoiV
  rw [hall]

/-- a piece is cut where it first stands. -/
theorem occ_no {a b : List UInt8} {c : UInt8} {t : List UInt8} (h : ∀ x ∈ a, x ≠ c) (j : Nat) (hj : j < a.length) : Lib.occAt (a ++ b) (c :: t) j = false := by
  unfold Lib.occAt
  rw [List.drop_append_of_le_length (by omega)]
  have : a.drop j = a[j] :: a.drop (j + 1) := List.drop_eq_getElem_cons hj
  rw [this, List.cons_append]
  have hne := h a[j] (List.getElem_mem _)
  have hb : (c == a[j]) = false := beq_eq_false_iff_ne.2 (Ne.symm hne)
  unfold List.isPrefixOf
  rw [hb]
  rfl
theorem cut_at {a b : List UInt8} {c : UInt8} {t : List UInt8} (h : ∀ x ∈ a, x ≠ c) : Lib.cut (a ++ (c :: t) ++ b) (c :: t) = (a, b, true) := by
  have hi : Lib.index (a ++ (c :: t) ++ b) (c :: t) = a.length := by
    refine Lib.index_first (by simp) ?_ (fun j hj => ?_)
    · unfold Lib.occAt
      rw [List.append_assoc, List.drop_left]
      simp
    · rw [List.append_assoc]
      exact occ_no h j hj
  unfold Lib.cut
  rw [hi, if_pos (by omega), Int.toNat_natCast]
  congr 1
  · rw [List.append_assoc, List.take_left]
  · congr 1
    rw [← List.drop_drop, List.append_assoc, List.drop_left, List.drop_left]
theorem cut_no {a : List UInt8} {c : UInt8} {t : List UInt8} (h : ∀ x ∈ a, x ≠ c) : Lib.cut a (c :: t) = (a, [], false) := by
  have hi : Lib.index a (c :: t) = -1 := by
    refine Lib.index_none (fun j hj => ?_)
    by_cases hl : j < a.length
    · have := occ_no (b := []) (t := t) h j hl
      rwa [List.append_nil] at this
    · unfold Lib.occAt
      rw [List.drop_of_length_le (by omega)]
      rfl
  unfold Lib.cut
  rw [hi, if_neg (by omega)]

def bytesL (l : List UInt8) : ByteArray := ⟨l.toArray⟩
/-- what the program reads of a path. -/
def cutP (p : ByteArray) : List UInt8 × List UInt8 × Bool := Lib.cut (Lib.trimPrefix p.data.toList sTile.data.toList) sP.data.toList
def cutQ (p : ByteArray) : List UInt8 × List UInt8 × Bool := Lib.cut (cutP p).1 sSlash.data.toList
def progX (p : ByteArray) : Int := if (cutP p).2.2 = true then atoiV (cutP p).2.1 else 4
def progL (p : ByteArray) : Int := atoiV (cutQ p).1
def progI (p : ByteArray) : Int := atoiV (cutQ p).2.1

theorem dec_free (u : Nat) (c : UInt8) (hc : isDig c = false) : ∀ x ∈ Lib.decDigits u, x ≠ c := by
  intro x hx e
  subst e
  rw [dec_dig u x hx] at hc
  cases hc
theorem trim_app (b r : List UInt8) : Lib.trimPrefix (b ++ r) b = r := by
  unfold Lib.trimPrefix Lib.hasPrefix
  rw [if_pos (by simp), List.drop_left]
theorem itoaB_data (u : Nat) : (itoaB (u : Int)).data.toList = Lib.decDigits u := by
  unfold itoaB Lib.itoa
  rw [if_neg (by omega), Int.toNat_natCast]
theorem free_app {a b : List UInt8} {c : UInt8} (ha : ∀ x ∈ a, x ≠ c) (hb : ∀ x ∈ b, x ≠ c) : ∀ x ∈ a ++ b, x ≠ c := by
  intro x hx
  rcases List.mem_append.1 hx with h | h
  · exact ha x h
  · exact hb x h
theorem prog_path {l i x : Int} (h : fitT l i x = true) : progL (pathT l i x) = l ∧ progI (pathT l i x) = i ∧ progX (pathT l i x) = x := by
  have hb := fit_bd h
  have hx4 : x ≤ 4 := by
    unfold fitT at h
    simp at h
    omega
  obtain ⟨l, rfl⟩ := Int.eq_ofNat_of_zero_le hb.1
  obtain ⟨i, rfl⟩ := Int.eq_ofNat_of_zero_le hb.2.2.1
  obtain ⟨x, rfl⟩ := Int.eq_ofNat_of_zero_le hb.2.2.2.2.1
  have hl := atoiV_dec l (by omega)
  have hi := atoiV_dec i (by omega)
  have hx := atoiV_dec x (by omega)
  have hslash : sSlash.data.toList = [47] := rfl
  have hp : sP.data.toList = [46, 112, 47] := rfl
  have hq : ∀ u : Nat, Lib.cut (Lib.decDigits l ++ [47] ++ Lib.decDigits u) [47] = (Lib.decDigits l, Lib.decDigits u, true) := fun u => cut_at (dec_free l 47 (by decide))
  have hfree : ∀ y ∈ Lib.decDigits l ++ [47] ++ Lib.decDigits i, y ≠ (46 : UInt8) :=
    free_app (free_app (dec_free l 46 (by decide)) (by intro y hy; simp at hy; subst hy; decide)) (dec_free i 46 (by decide))
  by_cases hlt : (x : Int) < 4
  · have hpath : (pathT l i x).data.toList = sTile.data.toList ++ (Lib.decDigits l ++ [47] ++ Lib.decDigits i ++ [46, 112, 47] ++ Lib.decDigits x) := by
      unfold pathT
      rw [if_pos h, if_pos hlt]
      simp only [ByteArray.data_append, Array.toList_append, itoaB_data, hslash, hp, List.append_assoc]
    have hP : cutP (pathT l i x) = (Lib.decDigits l ++ [47] ++ Lib.decDigits i, Lib.decDigits x, true) := by
      unfold cutP
      rw [hpath, trim_app, hp]
      exact cut_at hfree
    unfold progL progI progX cutQ
    rw [hP, hslash]
    simp only
    rw [hq i]
    exact ⟨hl, hi, (if_pos trivial).trans hx⟩
  · have hpath : (pathT l i x).data.toList = sTile.data.toList ++ (Lib.decDigits l ++ [47] ++ Lib.decDigits i) := by
      unfold pathT
      rw [if_pos h, if_neg hlt]
      simp only [ByteArray.data_append, Array.toList_append, itoaB_data, hslash, List.append_assoc]
    have hP : cutP (pathT l i x) = (Lib.decDigits l ++ [47] ++ Lib.decDigits i, [], false) := by
      unfold cutP
      rw [hpath, trim_app, hp]
      exact cut_no hfree
    unfold progL progI progX cutQ
    rw [hP, hslash]
    simp only
    rw [hq i]
    refine ⟨hl, hi, ?_⟩
    simp
    omega

theorem path_fit {l i x : Int} {p : ByteArray} (h0 : p ≠ ⟨#[]⟩) (h : pathT l i x = p) : fitT l i x = true := by
  by_cases hf : fitT l i x = true
  · exact hf
  · exfalso
    unfold pathT at h
    rw [if_neg hf] at h
    exact h0 h.symm
theorem parseT_path {p : ByteArray} {l i x : Int} (h : parseT p = some (l, i, x)) : p ≠ ⟨#[]⟩ ∧ pathT l i x = p := by
  refine ⟨fun e => ?_, ?_⟩
  · subst e
    unfold parseT at h
    rw [behind_nil sTile (by decide)] at h
    cases h
  · unfold parseT at h
    split at h
    · cases h
    · split at h
      · cases h
      · split at h
        · split at h
          · rename_i hc
            have h1 := Prod.mk.inj (Option.some.inj h)
            have h2 := Prod.mk.inj h1.2
            rw [← h1.1, ← h2.1, ← h2.2]
            exact hc.2
          · cases h
        · split at h
          · rename_i hc
            have h1 := Prod.mk.inj (Option.some.inj h)
            have h2 := Prod.mk.inj h1.2
            rw [← h1.1, ← h2.1, ← h2.2]
            exact hc.2
          · cases h
theorem parse_prog_yes {p : ByteArray} (h0 : p ≠ ⟨#[]⟩) (h : pathT (progL p) (progI p) (progX p) = p) : parseT p = some (progL p, progI p, progX p) := by
  have hf := path_fit h0 h
  exact (congrArg parseT h).symm.trans (parse_path hf)
theorem parse_prog_no {p : ByteArray} (h : p = ⟨#[]⟩ ∨ pathT (progL p) (progI p) (progX p) ≠ p) : parseT p = none := by
  cases hp : parseT p with
  | none => rfl
  | some t =>
    obtain ⟨l, i, x⟩ := t
    obtain ⟨h0, h1⟩ := parseT_path hp
    exfalso
    rcases h with h | h
    · exact h0 h
    · refine h ?_
      obtain ⟨a, b, c⟩ := prog_path (path_fit h0 h1)
      have a' := (congrArg progL h1).symm.trans a
      have b' := (congrArg progI h1).symm.trans b
      have c' := (congrArg progX h1).symm.trans c
      rw [a', b', c']
      exact h1
end Go.Proofs.YtobepddifflpdaaDoor
