import Derived.Test.YtobepddifflpdaaDoorTlP
import Derived.WalkKit
set_option linter.unusedVariables false
namespace Go.Proofs.YtobepddifflpdaaDoor
open Go Go.RowKit Go.Lib

def behindR (s b : ByteArray) : Value := match behindO s b with
  | some r => .tuple #[.string r, .bool true]
  | none => .tuple #[.string ⟨#[]⟩, .bool false]

theorem behind_short {s b : ByteArray} (h : s.size < b.size) : behindO s b = none := by
  unfold behindO
  rw [if_neg]
  intro e
  have := congrArg ByteArray.size e
  rw [ByteArray.size_extract] at this
  omega

theorem toList_eq_iff (s b : ByteArray) : (s.toList == b.toList) = decide (s = b) := by
  rw [ByteArray.toList_eq, ByteArray.toList_eq]
  by_cases h : s = b
  · subst h; simp
  · rw [decide_eq_false h, beq_eq_false_iff_ne]
    intro e
    exact h (by ext1; exact Array.toList_inj.1 e)

set_option maxRecDepth 100000 in
theorem behind_any (s b : ByteArray) (w : World) (hs : s.size ≤ 1000000000000000) (hb : b.size ≤ 1000) :
    Calls Tryd.prog 66 #[.string s, .string b] w fun e w' => e = .returned (behindR s b) ∧ w' = w := by
  go_enter Tryd.func66, Tryd.ntmps66
  by_cases h1 : (s.size : Int) < b.size
  · go_wp2_with fail
    go_ret2
    refine ⟨?_, rfl⟩
    rw [behindR, behind_short (by omega)]
    rfl
  · have h2 : (b.size : Int) ≤ s.size := by omega
    go_wp2_with fail
    all_goals
      rename_i hx
      rw [toList_eq_iff] at hx
      go_ret2
      refine ⟨?_, rfl⟩
      unfold behindR behindO
    · rw [if_neg (by simpa using hx)]
      rfl
    · rw [if_pos (by simpa using hx)]
      rfl

def DigRel (s : ByteArray) (n i : Value) (w wr : World) : Prop := ∃ k : Nat, i = .int .i64 k ∧ n = .int .i64 (valD (s.data.toList.take k)) ∧ DigAt s k ∧ wr = w

theorem byteAt_get (s : ByteArray) (k : Nat) (h : k < s.size) : byteAt s k = s[k] := by
  unfold byteAt
  have hl : k < s.data.toList.length := by rw [Array.length_toList]; exact h
  rw [List.getD_eq_getElem?_getD, List.getElem?_eq_getElem hl]
  rfl
def DigRes (s : ByteArray) (e : Ending) : Prop := e = .returned (.tuple #[.int .i64 (digV s), .string (digR s)])
theorem dig_bad {s : ByteArray} {k : Nat} (hI : digI s = k) (h : k = 0 ∨ ((s.data.toList.getD 0 0).toNat = 48 ∧ 1 < k)) : DigRes s (.returned (.tuple #[.int .i64 (-1), .string ⟨#[]⟩])) := by
  have hb : digBad s = true := by
    unfold digBad
    rw [hI]
    rcases h with h | ⟨h1, h2⟩
    · rw [decide_eq_true h, Bool.true_or]
    · have : s.data.toList.getD 0 0 = 48 := UInt8.toNat_inj.1 (by rw [h1]; rfl)
      rw [decide_eq_true this, decide_eq_true h2, Bool.true_and, Bool.or_true]
  unfold DigRes digV digR
  rw [hb]
  rfl
theorem dig_ok {s : ByteArray} {k : Nat} (hI : digI s = k) (h1 : k ≠ 0) (h2 : ¬ ((s.data.toList.getD 0 0).toNat = 48 ∧ 1 < k)) : DigRes s (.returned (.tuple #[.int .i64 (valD (s.data.toList.take k)), .string (s.extract k s.size)])) := by
  have hb : digBad s = false := by
    unfold digBad
    rw [hI, decide_eq_false h1, Bool.false_or]
    by_cases h3 : 1 < k
    · have : ¬ s.data.toList.getD 0 0 = 48 := fun e => h2 ⟨by rw [e]; rfl, h3⟩
      rw [decide_eq_false this, Bool.false_and]
    · rw [decide_eq_false h3, Bool.and_false]
  unfold DigRes digV digR
  rw [hb, hI]
  rfl

/-- what is left behind the loop. -/
def DigTail (s : ByteArray) (k : Nat) : Prop := digI s = k ∧ k ≤ s.size ∧ k ≤ 14

set_option maxHeartbeats 1000000 in
set_option maxRecDepth 100000 in
theorem digits_any (s : ByteArray) (w : World) (hs : s.size ≤ 1000000000000000) :
    Calls Tryd.prog 67 #[.string s] w fun e w' => DigRes s e ∧ Below w.heap.size w w' := by
  have Hg := Lib.hid (fun h => byteAt_get s 0 h)
  go_enter Tryd.func67, Tryd.ntmps67
  go_wp2_with fail
  go_loopw [4, 5] (fun i n wr => DigRel s n i w wr) (fun i _ _ => s.size - (intOf i).toNat)
  case atStart => exact ⟨0, rfl, rfl, digAt_zero s, rfl⟩
  case round =>
    obtain ⟨k, rfl, rfl, hd, rfl⟩ := hrel
    have HD := Lib.hid hd
    have hd2 := hd.2.1
    have hd3 := hd.1
    clear hd
    by_cases hin : k < s.size ∧ k < 14 ∧ isDig (byteAt s k) = true
    · obtain ⟨h1, h2, h3⟩ := hin
      have h2' : (k : Int) < 14 := by omega
      have hn := digAt_next HD.out h1 h2 h3
      have HN := Lib.hid hn
      have h4 : 48 ≤ (s[k].toNat : Int) ∧ (s[k].toNat : Int) ≤ 57 := by
        rw [byteAt_get s k h1] at h3
        unfold isDig at h3
        simp only [Bool.and_eq_true, decide_eq_true_eq] at h3
        omega
      obtain ⟨h5, h6⟩ := h4
      have hv : valD (s.data.toList.take k) < 10000000000000 := Nat.lt_of_lt_of_le HD.out.2.2.2 (Nat.pow_le_pow_right (by omega) (show k ≤ 13 by omega))
      clear hn h3
      go_wp2_with fail
      refine ⟨⟨k + 1, rfl, ?_, HN.out.1, rfl⟩, ?_⟩
      · rw [HN.out.2, byteAt_get s k h1]
        congr 1
        try unfold wrap64
        omega
      · show s.size - ((k : Int) + 1).toNat < s.size - (k : Int).toNat
        omega
    · have hstop : ¬ ((k : Int) < s.size) ∨ ((k < s.size) ∧ ¬ ((k : Int) < 14)) ∨ ∃ h : k < s.size, (k : Int) < 14 ∧ (¬ (48 ≤ (s[k].toNat : Int)) ∨ (48 ≤ (s[k].toNat : Int) ∧ ¬ (s[k].toNat : Int) ≤ 57)) := by
        by_cases h1 : k < s.size
        · refine Or.inr ?_
          by_cases h2 : k < 14
          · refine Or.inr ⟨h1, by omega, ?_⟩
            have h4 : ¬ (48 ≤ (s[k].toNat : Int) ∧ (s[k].toNat : Int) ≤ 57) := fun h => hin ⟨h1, h2, by
              rw [byteAt_get s k h1]
              unfold isDig
              simp only [Bool.and_eq_true, decide_eq_true_eq]
              omega⟩
            omega
          · exact Or.inl ⟨h1, by omega⟩
        · exact Or.inl (by omega)
      have hI : digI s = k := digAt_end HD.out (by
        by_cases h1 : k < s.size
        · by_cases h2 : k < 14
          · refine Or.inr (Or.inr ⟨h1, ?_⟩)
            cases hx : isDig (byteAt s k)
            · rfl
            · exact absurd ⟨h1, h2, hx⟩ hin
          · exact Or.inr (Or.inl (by omega))
        · exact Or.inl (by omega))
      have HI := Lib.hid hI
      clear hI hin
      by_cases hk0 : k = 0
      · subst hk0
        rcases hstop with h | ⟨h, h2⟩ | ⟨h, h2, h3 | ⟨h3, h4⟩⟩
        all_goals
          (go_wp2_with fail) <;> (go_ret2; exact ⟨dig_bad HI.out (Or.inl rfl), Below.refl _ _⟩)
      · have hs0 : 0 < s.size := by omega
        have hg := Hg.out hs0
        have hk1 : ¬ ((k : Int) = 0) := by omega
        by_cases hc : s[0].toNat = 48
        · have hc' : (s[0].toNat : Int) = 48 := by omega
          have hb : (s.data.toList.getD 0 0).toNat = 48 := by
            have : s.data.toList.getD 0 0 = s[0] := hg
            rw [this]; exact hc
          have HB := Lib.hid hb
          clear hg hb
          by_cases h1k : (1 : Int) < k
          · rcases hstop with h | ⟨h, h2⟩ | ⟨h, h2, h3 | ⟨h3, h4⟩⟩
            all_goals
              (go_wp2_with fail) <;> (go_ret2; exact ⟨dig_bad HI.out (Or.inr ⟨HB.out, by omega⟩), Below.refl _ _⟩)
          · rcases hstop with h | ⟨h, h2⟩ | ⟨h, h2, h3 | ⟨h3, h4⟩⟩
            all_goals
              (go_wp2_with fail) <;> (go_region <;> (go_wp2_with fail; go_ret2; exact ⟨dig_ok HI.out hk0 (fun e => by omega), (Below.refl _ _).drew⟩))
        · have hc' : ¬ (s[0].toNat : Int) = 48 := by omega
          have hb : ¬ (s.data.toList.getD 0 0).toNat = 48 := by
            have : s.data.toList.getD 0 0 = s[0] := hg
            rw [this]; exact hc
          have HB := Lib.hid hb
          clear hg hb
          rcases hstop with h | ⟨h, h2⟩ | ⟨h, h2, h3 | ⟨h3, h4⟩⟩
          all_goals
            (go_wp2_with fail) <;> (go_region <;> (go_wp2_with fail; go_ret2; exact ⟨dig_ok HI.out hk0 (fun e => HB.out e.1), (Below.refl _ _).drew⟩))
end Go.Proofs.YtobepddifflpdaaDoor
