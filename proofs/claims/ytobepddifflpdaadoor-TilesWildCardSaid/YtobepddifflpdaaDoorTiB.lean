import Derived.Test.YtobepddifflpdaaDoorTiA
set_option linter.unusedVariables false
namespace Go.Proofs.YtobepddifflpdaaDoor
open Go Go.RowKit Go.Lib Go.Sort Go.Maps Go.WideMaps

/-! the document's proofs, out of roots -/
def inclG (rt : Nat → Nat → ByteArray) (a n i : Nat) : List ByteArray :=
  if h : n ≤ 1 then [] else
    have := pw_lt (n := n) (by omega)
    have := pw_pos n
    if i < pw n then inclG rt a (pw n) i ++ [rt (a + pw n) (n - pw n)] else inclG rt (a + pw n) (n - pw n) (i - pw n) ++ [rt a (pw n)]
termination_by n
decreasing_by all_goals omega
theorem inclG_one (rt : Nat → Nat → ByteArray) (a n i : Nat) (h : n ≤ 1) : inclG rt a n i = [] := by rw [inclG, dif_pos h]
theorem inclG_two (rt : Nat → Nat → ByteArray) (a n i : Nat) (h : 2 ≤ n) : inclG rt a n i = if i < pw n then inclG rt a (pw n) i ++ [rt (a + pw n) (n - pw n)] else inclG rt (a + pw n) (n - pw n) (i - pw n) ++ [rt a (pw n)] := by
  rw [inclG, dif_neg (by omega)]
def partG (rt : Nat → Nat → ByteArray) (m a n : Nat) (wh : Bool) : List ByteArray :=
  if h : n ≤ m ∨ n ≤ 1 then (if wh then [] else [rt a n]) else
    have := pw_lt (n := n) (by omega)
    have := pw_pos n
    if m ≤ pw n then partG rt m a (pw n) wh ++ [rt (a + pw n) (n - pw n)] else partG rt (m - pw n) (a + pw n) (n - pw n) false ++ [rt a (pw n)]
termination_by n
decreasing_by all_goals omega
theorem partG_end (rt : Nat → Nat → ByteArray) (m a n : Nat) (wh : Bool) (h : n ≤ m ∨ n ≤ 1) : partG rt m a n wh = if wh then [] else [rt a n] := by rw [partG, dif_pos h]
theorem partG_two (rt : Nat → Nat → ByteArray) (m a n : Nat) (wh : Bool) (h : ¬ (n ≤ m ∨ n ≤ 1)) : partG rt m a n wh = if m ≤ pw n then partG rt m a (pw n) wh ++ [rt (a + pw n) (n - pw n)] else partG rt (m - pw n) (a + pw n) (n - pw n) false ++ [rt a (pw n)] := by
  rw [partG, dif_neg h]

/-! going down for a place -/
def incJ (V : Nat → Nat → ByteArray) (n i : Nat) (a b : Nat) (l : List ByteArray) (_ : Bool) : Prop := a ≤ i ∧ i < b ∧ inclG (rootV V) 0 n i = inclG (rootV V) a (b - a) (i - a) ++ l.reverse
def incR (i : Int) (a k : Nat) : Bool := decide ((a : Int) + k ≤ i)
def incM (a b : Nat) : Bool := decide ((1 : Int) < (b : Int) - a)
theorem inc_downs (V : Nat → Nat → ByteArray) (n i : Nat) : Downs V n (incR i) incM (incJ V n i) := by
  refine ⟨fun a b l wh h hM => ?_, fun a b l wh h hM hR => ?_, fun a b l wh h hM hR => ?_⟩
  · obtain ⟨h1, h2, _⟩ := h
    unfold incM at hM
    simp only [decide_eq_true_eq] at hM
    omega
  · obtain ⟨h1, h2, h3⟩ := h
    unfold incM at hM
    unfold incR at hR
    simp only [decide_eq_true_eq] at hM hR
    have hlt := pw_lt (n := b - a) (by omega)
    refine ⟨by omega, h2, ?_⟩
    rw [h3, inclG_two _ a (b - a) (i - a) (by omega), if_neg (by omega), List.reverse_append, show b - (a + pw (b - a)) = b - a - pw (b - a) by omega, show i - (a + pw (b - a)) = i - a - pw (b - a) by omega]
    simp
  · obtain ⟨h1, h2, h3⟩ := h
    unfold incM at hM
    unfold incR at hR
    simp only [decide_eq_true_eq] at hM
    have hR := of_decide_eq_false hR
    have hlt := pw_lt (n := b - a) (by omega)
    refine ⟨h1, by omega, ?_⟩
    rw [h3, inclG_two _ a (b - a) (i - a) (by omega), if_pos (by omega), List.reverse_append, show a + pw (b - a) - a = pw (b - a) by omega]
    simp
theorem inc_start (V : Nat → Nat → ByteArray) (n i : Nat) (h : i < n) : incJ V n i 0 n [] true := ⟨Nat.zero_le _, h, by simp⟩
theorem inc_end {V : Nat → Nat → ByteArray} {n i a b : Nat} {l : List ByteArray} {wh : Bool} (h : incJ V n i a b l wh) (hM : incM a b = false) : l.reverse = inclG (rootV V) 0 n i := by
  obtain ⟨h1, h2, h3⟩ := h
  unfold incM at hM
  have hM := of_decide_eq_false hM
  rw [h3, inclG_one _ _ _ _ (by omega)]
  rfl

/-! going down for a beginning -/
def conJ (V : Nat → Nat → ByteArray) (n m : Nat) (a b : Nat) (l : List ByteArray) (wh : Bool) : Prop := a < m ∧ m ≤ b ∧ partG (rootV V) m 0 n true = partG (rootV V) (m - a) a (b - a) wh ++ l.reverse
def conR (m : Int) (a k : Nat) : Bool := decide ((a : Int) + k < m)
def conM (m : Int) (_a b : Nat) : Bool := decide (m < (b : Int))
theorem con_downs (V : Nat → Nat → ByteArray) (n m : Nat) : Downs V n (conR m) (conM m) (conJ V n m) := by
  refine ⟨fun a b l wh h hM => ?_, fun a b l wh h hM hR => ?_, fun a b l wh h hM hR => ?_⟩
  · obtain ⟨h1, h2, _⟩ := h
    unfold conM at hM
    simp only [decide_eq_true_eq] at hM
    omega
  · obtain ⟨h1, h2, h3⟩ := h
    unfold conM at hM
    unfold conR at hR
    simp only [decide_eq_true_eq] at hM hR
    have hlt := pw_lt (n := b - a) (by omega)
    refine ⟨by omega, h2, ?_⟩
    rw [h3, partG_two _ (m - a) a (b - a) wh (by omega), if_neg (by omega), List.reverse_append, show b - (a + pw (b - a)) = b - a - pw (b - a) by omega, show m - (a + pw (b - a)) = m - a - pw (b - a) by omega]
    simp
  · obtain ⟨h1, h2, h3⟩ := h
    unfold conM at hM
    unfold conR at hR
    simp only [decide_eq_true_eq] at hM
    have hR := of_decide_eq_false hR
    have hlt := pw_lt (n := b - a) (by omega)
    refine ⟨h1, by omega, ?_⟩
    rw [h3, partG_two _ (m - a) a (b - a) wh (by omega), if_pos (by omega), List.reverse_append, show a + pw (b - a) - a = pw (b - a) by omega]
    simp
theorem con_start (V : Nat → Nat → ByteArray) (n m : Nat) (h0 : 0 < m) (h : m ≤ n) : conJ V n m 0 n [] true := ⟨h0, h, by simp⟩
theorem con_end {V : Nat → Nat → ByteArray} {n m a b : Nat} {l : List ByteArray} {wh : Bool} (h : conJ V n m a b l wh) (hM : conM m a b = false) : partG (rootV V) m 0 n true = (if wh then l else l ++ [rootV V a (b - a)]).reverse := by
  obtain ⟨h1, h2, h3⟩ := h
  unfold conM at hM
  have hM := of_decide_eq_false hM
  rw [h3, partG_end _ _ _ _ _ (Or.inl (by omega))]
  cases wh
  · simp
  · simp

/-! the function values -/
theorem pred_incR (xb : Nat) (i : Int) (hi : -9223372036854775808 ≤ i ∧ i ≤ 9223372036854775807) : Pred2 xb i (.func (.func 50) #[] #[.pointer (some ⟨xb, 0, none⟩)]) (incR i) := by
  refine ⟨_, _, rfl, enters_of Tryd.func50 (by kernel_rfl) rfl, fun w a b hx ha hb => ?_⟩
  go_enter Tryd.func50, Tryd.ntmps50
  go_wp2_with fail
  go_ret
  exact ⟨rfl, rfl⟩
theorem pred_incM (xb : Nat) (i : Int) : Pred2 xb i (.func (.func 51) #[] #[]) incM := by
  refine ⟨_, _, rfl, enters_of Tryd.func51 (by kernel_rfl) rfl, fun w a b hx ha hb => ?_⟩
  go_enter Tryd.func51, Tryd.ntmps51
  go_wp2_with fail
  go_ret
  exact ⟨rfl, rfl⟩
theorem pred_conR (xb : Nat) (i : Int) : Pred2 xb i (.func (.func 54) #[] #[.pointer (some ⟨xb, 0, none⟩)]) (conR i) := by
  refine ⟨_, _, rfl, enters_of Tryd.func54 (by kernel_rfl) rfl, fun w a b hx ha hb => ?_⟩
  go_enter Tryd.func54, Tryd.ntmps54
  go_wp2_with fail
  go_ret
  exact ⟨rfl, rfl⟩
theorem pred_conM (xb : Nat) (i : Int) : Pred2 xb i (.func (.func 55) #[] #[.pointer (some ⟨xb, 0, none⟩)]) (conM i) := by
  refine ⟨_, _, rfl, enters_of Tryd.func55 (by kernel_rfl) rfl, fun w a b hx ha hb => ?_⟩
  go_enter Tryd.func55, Tryd.ntmps55
  go_wp2_with fail
  go_ret
  exact ⟨rfl, rfl⟩
end Go.Proofs.YtobepddifflpdaaDoor
