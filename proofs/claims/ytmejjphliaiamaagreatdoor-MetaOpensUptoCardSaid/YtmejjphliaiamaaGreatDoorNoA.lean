import Derived.Test.YtmejjphliaiamaaGreatDoorHxV
import Derived.Laws.RangeAny
set_option linter.unusedVariables false
set_option linter.unusedSimpArgs false
namespace Go.Proofs.YtmejjphliaiamaaGreatDoor
open Go Go.RowKit Go.Lib

/-! ### a good origin -/
def okC (c : UInt8) : Bool := decide (33 ≤ c.toNat) && decide (c.toNat ≤ 126)
def badR (x : Nat) : Bool := decide (x < 33) || decide (126 < x)
theorem drop_one (s : ByteArray) (n : Nat) (h : n < s.size) : s.data.toList.drop n = s[n] :: s.data.toList.drop (n + 1) := by
  have hl : n < s.data.toList.length := h
  rw [List.drop_eq_getElem_cons hl]
  rfl
theorem okC_badR (c : UInt8) : badR c.toNat = !okC c := by
  unfold badR okC
  rw [Bool.eq_iff_iff]
  simp [Nat.not_le]
theorem idx_bad (s : ByteArray) : ∀ (f pos : Nat), s.size - pos ≤ f → (0 ≤ Lib.idxFuncFrom badR true s f pos ↔ (s.data.toList.drop pos).all okC = false)
  | 0, pos, h => by
    have : s.data.toList.drop pos = [] := List.drop_eq_nil_of_le (by rw [Array.length_toList]; show s.size ≤ pos; omega)
    rw [this]
    simp [Lib.idxFuncFrom]
  | f + 1, pos, h => by
    unfold Lib.idxFuncFrom
    by_cases hp : pos < s.size
    · rw [if_pos hp, drop_one s pos hp, List.all_cons]
      by_cases ha : (s[pos]'hp).toNat < 128
      · rw [decode_ascii s pos hp ha]
        simp only [okC_badR]
        cases hc : okC s[pos] with
        | true =>
          rw [if_neg (by simp), Bool.true_and]
          exact idx_bad s f (pos + 1) (by omega)
        | false => simp
      · have hh := (decode_high s pos hp (by omega)).1
        have hb : badR (Utf8.decode s pos).1 = true := by unfold badR; simp; omega
        have hc : okC s[pos] = false := by unfold okC; simp; omega
        rw [if_pos hb, hc]
        simp
    · rw [if_neg hp]
      have : s.data.toList.drop pos = [] := List.drop_eq_nil_of_le (by rw [Array.length_toList]; show s.size ≤ pos; omega)
      rw [this]
      simp
theorem idx_all (s : ByteArray) : decide (0 ≤ Lib.idxFunc badR true s) = !(s.data.toList.all okC) := by
  have h := idx_bad s s.size 0 (by omega)
  rw [List.drop_zero] at h
  unfold Lib.idxFunc
  cases hc : s.data.toList.all okC with
  | true => rw [hc] at h; simpa using h
  | false => rw [hc] at h; simpa using h
def origG (s : ByteArray) : Bool := decide (1 ≤ s.size) && decide (s.size ≤ 64) && s.data.toList.all okC

theorem originf_any (x : Nat) (hx : x ≤ 1114111) (w : World) : Calls Tryz.prog 160 #[.int .i32 x] w fun e w' => e = .returned (.bool (badR x)) ∧ w = w' := by
  unfold badR
  by_cases h1 : x < 33
  · have h1' : (x : Int) < 33 := by omega
    have hb : (decide (x < 33) || decide (126 < x)) = true := by simp [h1]
    rw [hb]
    clear hb h1
    go_enter Tryz.func160, Tryz.ntmps160
    go_wp2_with fail
    go_ret
    exact ⟨rfl, rfl⟩
  · have h1' : ¬ (x : Int) < 33 := by omega
    by_cases h2 : 126 < x
    · have h2' : (126 : Int) < (x : Int) := by omega
      have hb : (decide (x < 33) || decide (126 < x)) = true := by simp [h2]
      rw [hb]
      clear hb h1 h2
      go_enter Tryz.func160, Tryz.ntmps160
      go_wp2_with fail
      go_ret
      exact ⟨rfl, rfl⟩
    · have h2' : ¬ (126 : Int) < (x : Int) := by omega
      have hb : (decide (x < 33) || decide (126 < x)) = false := by simp [h1, h2]
      rw [hb]
      clear hb h1 h2
      go_enter Tryz.func160, Tryz.ntmps160
      go_wp2_with fail
      go_ret
      exact ⟨rfl, rfl⟩

theorem enter_origin : ∀ args w, (callFunc 160 args).run Tryz.prog w = .ok (.enter 160 args) w := fun args w => by kernel_rfl
theorem pred_origin (w : World) : PredGrows Tryz.prog 160 #[] badR w := fun W x hx _ => (originf_any x hx W).mono fun e w' ⟨he, hw⟩ => ⟨he, hw ▸ Below.refl _ _⟩

theorem size_zero_iff (s : ByteArray) : s.size = 0 ↔ s.toList = [] := by
  rw [ByteArray.toList_eq]
  constructor
  · intro h; exact List.eq_nil_of_length_eq_zero (by rw [Array.length_toList]; exact h)
  · intro h; have := congrArg List.length h; rw [Array.length_toList] at this; exact this

theorem origin_any (s : ByteArray) (w : World) (hs : s.size ≤ 9223372036854775807) :
    Calls Tryz.prog 130 #[.string s] w fun e w' => e = .returned (.bool (origG s)) ∧ Below w.heap.size w w' := by
  have HC := Lib.hid (fun W => Tryz.strings_ContainsFunc_grows 160 #[] enter_origin badR s W (pred_origin W))
  unfold origG
  by_cases h0 : s.size = 0
  · have e1 : (s.toList == ByteArray.toList ⟨#[]⟩) = true := by rw [(size_zero_iff s).1 h0, (size_zero_iff ⟨#[]⟩).1 rfl]; rfl
    have e2 : s.toList.isEmpty = true := by rw [(size_zero_iff s).1 h0]; rfl
    have hb : (decide (1 ≤ s.size) && decide (s.size ≤ 64) && s.data.toList.all okC) = false := by rw [h0]; rfl
    rw [hb]
    go_enter Tryz.func130, Tryz.ntmps130
    go_wp2_with fail
    go_ret
    exact ⟨rfl, Below.refl _ _⟩
  · have hne : s.toList ≠ [] := fun h => h0 ((size_zero_iff s).2 h)
    have e2 : s.toList.isEmpty = false := by cases hl : s.toList with | nil => exact absurd hl hne | cons a b => rfl
    by_cases h64 : s.size ≤ 64
    · have h64' : (s.size : Int) ≤ 64 := by omega
      have hb : (decide (1 ≤ s.size) && decide (s.size ≤ 64) && s.data.toList.all okC) = s.data.toList.all okC := by
        rw [decide_eq_true (by omega : 1 ≤ s.size), decide_eq_true h64]; rfl
      rw [hb]
      have hi := idx_all s
      generalize s.data.toList.all okC = al at hi ⊢
      have hi2 : (!(decide (0 ≤ Lib.idxFunc badR true s))) = al := by rw [hi]; cases al <;> rfl
      have HI := Lib.hid hi
      clear hi hb h64 hi2
      go_enter Tryz.func130, Tryz.ntmps130
      go_wp2_with fail
      refine (HC.out _).mono ?_
      rintro e w1 ⟨rfl, hb⟩
      rw [HI.out]
      have HB := Lib.hid hb
      clear hb
      go_wp2_with fail
      go_ret
      cases al <;> exact ⟨rfl, HB.out⟩
    · have h64' : ¬ (s.size : Int) ≤ 64 := by omega
      have hb : (decide (1 ≤ s.size) && decide (s.size ≤ 64) && s.data.toList.all okC) = false := by
        rw [decide_eq_false h64]; simp
      rw [hb]
      clear hb h64
      go_enter Tryz.func130, Tryz.ntmps130
      go_wp2_with fail
      go_ret
      exact ⟨rfl, Below.refl _ _⟩
end Go.Proofs.YtmejjphliaiamaaGreatDoor
