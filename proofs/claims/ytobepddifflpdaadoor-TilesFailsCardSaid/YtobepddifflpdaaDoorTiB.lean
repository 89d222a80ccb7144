import Derived.Test.YtobepddifflpdaaDoorTiA
set_option linter.unusedVariables false
namespace Go.Proofs.YtobepddifflpdaaDoor
open Go Go.RowKit Go.Lib Go.Sort Go.Maps Go.WideMaps

/-! the document's proofs, out of roots -/
def inclG (rt : Nat → Nat → ByteArray) (a n i : Nat) : List ByteArray :=
  if h : n ≤ 1 then [] else
    have := pw_lt (n := n) (by omega)
    have := pw_pos n
    if i < pw n then inclG rt a (pw n) i ++ [rt (a + pw n) (n - pw n)] else inclG rt (a + pw n) (n - pw n) (i - pw n) ++ [rt a (pw n)]
termination_by n
decreasing_by all_goals omega
theorem inclG_one (rt : Nat → Nat → ByteArray) (a n i : Nat) (h : n ≤ 1) : inclG rt a n i = [] := by rw [inclG, dif_pos h]
theorem inclG_two (rt : Nat → Nat → ByteArray) (a n i : Nat) (h : 2 ≤ n) : inclG rt a n i = if i < pw n then inclG rt a (pw n) i ++ [rt (a + pw n) (n - pw n)] else inclG rt (a + pw n) (n - pw n) (i - pw n) ++ [rt a (pw n)] := by
  rw [inclG, dif_neg (by omega)]
def partG (rt : Nat → Nat → ByteArray) (m a n : Nat) (wh : Bool) : List ByteArray :=
  if h : n ≤ m ∨ n ≤ 1 then (if wh then [] else [rt a n]) else
    have := pw_lt (n := n) (by omega)
    have := pw_pos n
    if m ≤ pw n then partG rt m a (pw n) wh ++ [rt (a + pw n) (n - pw n)] else partG rt (m - pw n) (a + pw n) (n - pw n) false ++ [rt a (pw n)]
termination_by n
decreasing_by all_goals omega
theorem partG_end (rt : Nat → Nat → ByteArray) (m a n : Nat) (wh : Bool) (h : n ≤ m ∨ n ≤ 1) : partG rt m a n wh = if wh then [] else [rt a n] := by rw [partG, dif_pos h]
theorem partG_two (rt : Nat → Nat → ByteArray) (m a n : Nat) (wh : Bool) (h : ¬ (n ≤ m ∨ n ≤ 1)) : partG rt m a n wh = if m ≤ pw n then partG rt m a (pw n) wh ++ [rt (a + pw n) (n - pw n)] else partG rt (m - pw n) (a + pw n) (n - pw n) false ++ [rt a (pw n)] := by
  rw [partG, dif_neg h]

/-! going down for a place -/
def incJ (V : Nat → Nat → ByteArray) (n i : Nat) (a b : Nat) (l : List ByteArray) (_ : Bool) : Prop := a ≤ i ∧ i < b ∧ inclG (rootV V) 0 n i = inclG (rootV V) a (b - a) (i - a) ++ l.reverse
def incR (i : Int) (a k : Nat) : Bool := decide ((a : Int) + k ≤ i)
def incM (a b : Nat) : Bool := decide ((1 : Int) < (b : Int) - a)
theorem inc_downs (V : Nat → Nat → ByteArray) (n i : Nat) : Downs V n (incR i) incM (incJ V n i) := by
  refine ⟨fun a b l wh h hM => ?_, fun a b l wh h hM hR => ?_, fun a b l wh h hM hR => ?_⟩
  · obtain ⟨h1, h2, _⟩ := h
    unfold incM at hM
    simp only [decide_eq_true_eq] at hM
    omega
  · obtain ⟨h1, h2, h3⟩ := h
    unfold incM at hM
    unfold incR at hR
    simp only [decide_eq_true_eq] at hM hR
    have hlt := pw_lt (n := b - a) (by omega)
    refine ⟨by omega, h2, ?_⟩
    rw [h3, inclG_two _ a (b - a) (i - a) (by omega), if_neg (by omega), List.reverse_append, show b - (a + pw (b - a)) = b - a - pw (b - a) by omega, show i - (a + pw (b - a)) = i - a - pw (b - a) by omega]
    simp
  · obtain ⟨h1, h2, h3⟩ := h
    unfold incM at hM
    unfold incR at hR
    simp only [decide_eq_true_eq] at hM
    have hR := of_decide_eq_false hR
    have hlt := pw_lt (n := b - a) (by omega)
    refine ⟨h1, by omega, ?_⟩
    rw [h3, inclG_two _ a (b - a) (i - a) (by omega), if_pos (by omega), List.reverse_append, show a + pw (b - a) - a = pw (b - a) by omega]
    simp
theorem inc_start (V : Nat → Nat → ByteArray) (n i : Nat) (h : i < n) : incJ V n i 0 n [] true := ⟨Nat.zero_le _, h, by simp⟩
theorem inc_end {V : Nat → Nat → ByteArray} {n i a b : Nat} {l : List ByteArray} {wh : Bool} (h : incJ V n i a b l wh) (hM : incM a b = false) : l.reverse = inclG (rootV V) 0 n i := by
  obtain ⟨h1, h2, h3⟩ := h
  unfold incM at hM
  have hM := of_decide_eq_false hM
  rw [h3, inclG_one _ _ _ _ (by omega)]
  rfl

/-! going down for a beginning -/
def conJ (V : Nat → Nat → ByteArray) (n m : Nat) (a b : Nat) (l : List ByteArray) (wh : Bool) : Prop := a < m ∧ m ≤ b ∧ partG (rootV V) m 0 n true = partG (rootV V) (m - a) a (b - a) wh ++ l.reverse
def conR (m : Int) (a k : Nat) : Bool := decide ((a : Int) + k < m)
def conM (m : Int) (_a b : Nat) : Bool := decide (m < (b : Int))
theorem con_downs (V : Nat → Nat → ByteArray) (n m : Nat) : Downs V n (conR m) (conM m) (conJ V n m) := by
  refine ⟨fun a b l wh h hM => ?_, fun a b l wh h hM hR => ?_, fun a b l wh h hM hR => ?_⟩
  · obtain ⟨h1, h2, _⟩ := h
    unfold conM at hM
    simp only [decide_eq_true_eq] at hM
    omega
  · obtain ⟨h1, h2, h3⟩ := h
    unfold conM at hM
    unfold conR at hR
    simp only [decide_eq_true_eq] at hM hR
    have hlt := pw_lt (n := b - a) (by omega)
    refine ⟨by omega, h2, ?_⟩
    rw [h3, partG_two _ (m - a) a (b - a) wh (by omega), if_neg (by omega), List.reverse_append, show b - (a + pw (b - a)) = b - a - pw (b - a) by omega, show m - (a + pw (b - a)) = m - a - pw (b - a) by omega]
    simp
  · obtain ⟨h1, h2, h3⟩ := h
    unfold conM at hM
    unfold conR at hR
    simp only [decide_eq_true_eq] at hM
    have hR := of_decide_eq_false hR
    have hlt := pw_lt (n := b - a) (by omega)
    refine ⟨h1, by omega, ?_⟩
    rw [h3, partG_two _ (m - a) a (b - a) wh (by omega), if_pos (by omega), List.reverse_append, show a + pw (b - a) - a = pw (b - a) by omega]
    simp
theorem con_start (V : Nat → Nat → ByteArray) (n m : Nat) (h0 : 0 < m) (h : m ≤ n) : conJ V n m 0 n [] true := ⟨h0, h, by simp⟩
theorem con_end {V : Nat → Nat → ByteArray} {n m a b : Nat} {l : List ByteArray} {wh : Bool} (h : conJ V n m a b l wh) (hM : conM m a b = false) : partG (rootV V) m 0 n true = (if wh then l else l ++ [rootV V a (b - a)]).reverse := by
  obtain ⟨h1, h2, h3⟩ := h
  unfold conM at hM
  have hM := of_decide_eq_false hM
  rw [h3, partG_end _ _ _ _ _ (Or.inl (by omega))]
  cases wh
  · simp
  · simp

/-! the function values -/
theorem pred_incR (xb : Nat) (i : Int) (hi : -9223372036854775808 ≤ i ∧ i ≤ 9223372036854775807) : Pred2 xb i (.func (.func 50) #[] #[.pointer (some ⟨xb, 0, none⟩)]) (incR i) := by
  refine ⟨_, _, rfl, enters_of Tryd.func50 (by kernel_rfl) rfl, fun w a b hx ha hb => ?_⟩
  go_enter Tryd.func50, Tryd.ntmps50
  go_wp2_with fail
  go_ret
  exact ⟨rfl, rfl⟩
theorem pred_incM (xb : Nat) (i : Int) : Pred2 xb i (.func (.func 51) #[] #[]) incM := by
  refine ⟨_, _, rfl, enters_of Tryd.func51 (by kernel_rfl) rfl, fun w a b hx ha hb => ?_⟩
  go_enter Tryd.func51, Tryd.ntmps51
  go_wp2_with fail
  go_ret
  exact ⟨rfl, rfl⟩
theorem pred_conR (xb : Nat) (i : Int) : Pred2 xb i (.func (.func 54) #[] #[.pointer (some ⟨xb, 0, none⟩)]) (conR i) := by
  refine ⟨_, _, rfl, enters_of Tryd.func54 (by kernel_rfl) rfl, fun w a b hx ha hb => ?_⟩
  go_enter Tryd.func54, Tryd.ntmps54
  go_wp2_with fail
  go_ret
  exact ⟨rfl, rfl⟩
theorem pred_conM (xb : Nat) (i : Int) : Pred2 xb i (.func (.func 55) #[] #[.pointer (some ⟨xb, 0, none⟩)]) (conM i) := by
  refine ⟨_, _, rfl, enters_of Tryd.func55 (by kernel_rfl) rfl, fun w a b hx ha hb => ?_⟩
  go_enter Tryd.func55, Tryd.ntmps55
  go_wp2_with fail
  go_ret
  exact ⟨rfl, rfl⟩

theorem flat1 (l : List ByteArray) : l.flatMap (fun s => [Value.string s]) = l.map Value.string := by
  induction l with
  | nil => rfl
  | cons x l ih => simp [List.flatMap_cons, ih]
theorem cells_of_ownS {w : World} {base : Nat} {v : Value} {l : List ByteArray} (h : OwnS w base v l) : ∃ ao cap, v = .slice ao l.length cap ∧ l.length ≤ cap ∧ cap ≤ 9223372036854775807 ∧ ∀ (k : Nat) (t : ByteArray), l[k]? = some t → ∃ g, ao = some ⟨g, 0, none⟩ ∧ w.cell? ⟨g, k, none⟩ = some (.string t) := by
  obtain ⟨ao, cap, hv, h1, h2, h3⟩ := OwnL.form h
  refine ⟨ao, cap, hv, h1, h2, fun k t ht => ?_⟩
  have hk : k < l.length := (List.getElem?_eq_some_iff.1 ht).1
  obtain ⟨g, rfl, -, -, hc⟩ := h3 (by omega)
  exact ⟨g, rfl, by rw [hc k (by omega), flat1, List.getElem?_map, ht]; rfl⟩

def PfRel (l : List ByteArray) (w : World) (p i : Value) (wr : World) : Prop :=
  ∃ j : Nat, j ≤ l.length ∧ i = .int .i64 ((j : Int) - 1) ∧ OwnS wr w.heap.size p (l.drop j).reverse ∧ Below w.heap.size w wr

set_option maxRecDepth 100000 in
set_option maxHeartbeats 1000000 in
theorem proof_ok (rb base : Nat) (v : Value) (l : List ByteArray) (w : World) (c : Array Value) (hc2 : w.cell? ⟨rb, 2, none⟩ = some (.int .i64 0)) (ho : OwnS w base v l) (hlen : l.length ≤ 100000) :
    Calls Tryd.prog 52 #[.pointer (some ⟨rb, 0, none⟩), v] w fun en w' => ∃ p, en = .returned (.tuple #[p, .int .i64 0]) ∧ OwnS w' w.heap.size p l.reverse ∧ Below w.heap.size w w' := by
  obtain ⟨i0, hi, hz0, hz1, hz2⟩ := info_parts infoStr
  have HI2 := Lib.hid hz2
  obtain ⟨ao, cap, rfl, hcap, hcap2, hcell⟩ := cells_of_ownS ho
  have HC := Lib.hid hcell
  clear hz2 ho hcell
  go_enter Tryd.func52, Tryd.ntmps52
  go_wp2_with fail
  go_loopw [6, 7] (fun p i wr => PfRel l w p i wr) (fun _ i _ => ((RowKit.intOf i) + 1).toNat)
  case atStart => exact ⟨l.length, Nat.le_refl _, rfl, by rw [List.drop_length]; exact ownL_nil _ _, Below.refl _ _⟩
  case round =>
    obtain ⟨j, hj, rfl, hown, hbel⟩ := hrel
    have HO := Lib.hid hown
    have HB := Lib.hid hbel
    clear hown hbel
    by_cases hlt : 0 < j
    · obtain ⟨k, rfl⟩ : ∃ k, j = k + 1 := ⟨j - 1, by omega⟩
      obtain ⟨t, ht⟩ : ∃ t, l[k]? = some t := ⟨_, List.getElem?_eq_getElem (by omega)⟩
      obtain ⟨g, rfl, hq⟩ := HC.out k t ht
      have hq2 := (HB.out.cell (p := ⟨g, k, none⟩) (cell_lt hq)).trans hq
      have e1 : ((k + 1 : Nat) : Int) - 1 = (k : Int) := by omega
      have HTt := Lib.hid ht
      rw [e1]
      clear hq ht e1
      go_wp2_with (first | (at_builtin; refine wpList_appL _ rfl _ _ 29 rfl i0 (.string ⟨#[]⟩) 16 Tryd.underlying29 hi hz0 hz1 HI2.out rfl (by decide) w.heap.size _ (l.drop (k + 1)).reverse rfl (OwnL.alloc HO.out _) t rfl ⟨wr.heap.size, 0, none⟩ 1 rfl (one_str wr _ _) ?_ ?_ (by decide) ?_ ?_) | fail)
      · intro u hu; simp at hu; subst hu; rfl
      · rw [List.length_reverse, List.length_drop]; omega
      · rw [size_alloc]; have := HB.out.size; omega
      intro v4 w4 ho4 hg4 _
      have hB4 : Below w.heap.size w w4 := (HB.out.alloc HB.out.size _).grown hg4 (by rw [size_alloc]; have := HB.out.size; omega) (fun g hg => (OwnL.lt HO.out g hg).1)
      have HO4 := Lib.hid ho4
      have HB4 := Lib.hid hB4
      clear ho4 hg4 hB4
      go_wp2_with fail
      refine ⟨⟨k, by omega, rfl, ?_, HB4.out⟩, ?_⟩
      · have := HO4.out
        have hd : l.drop k = t :: l.drop (k + 1) := by
          have hkl := (List.getElem?_eq_some_iff.1 HTt.out)
          obtain ⟨h1, h2⟩ := hkl
          rw [List.drop_eq_getElem_cons h1, h2]
        rw [hd, List.reverse_cons]
        exact this
      · show (((k : Int) - 1) + 1).toNat < ((k : Int) + 1).toNat
        omega
    · obtain rfl : j = 0 := by omega
      have hO := HO.out
      rw [List.drop_zero] at hO
      have HO1 := Lib.hid hO
      clear hO HO
      go_wp2_with fail
      go_ret2
      exact ⟨_, rfl, HO1.out, HB.out⟩

theorem proof_err (rb : Nat) (v : Value) (w : World) (e : Int) (he : e ≠ 0) (hc2 : w.cell? ⟨rb, 2, none⟩ = some (.int .i64 e)) :
    Calls Tryd.prog 52 #[.pointer (some ⟨rb, 0, none⟩), v] w fun en w' => en = .returned (.tuple #[.slice none 0 0, .int .i64 e]) ∧ Below w.heap.size w w' := by
  have c2d : w.drew.cell? ⟨rb, 2, none⟩ = some (.int .i64 e) := hc2
  go_enter Tryd.func52, Tryd.ntmps52
  go_wp2_with fail
  go_region
  all_goals
    go_wp2_with fail
    go_ret2
    exact ⟨rfl, (Below.refl _ _).drew⟩

def PrfPost (Z : Src) (n : Nat) (L : List ByteArray) (w : World) (s : Z.σ) (en : Ending) (w' : World) : Prop :=
  ∃ v e' s' l, en = .returned (.tuple #[v, .int .i64 e']) ∧ Out Z n (2 * n) w s w' e' s' ∧ OwnS w' w.heap.size v l ∧ (∀ g, v.ownBlock = some g → ¬ Z.R s' g) ∧ (e' = 0 → l = L) ∧ (e' ≠ 0 → l = [])
def ArgPost (Z : Src) (n : Nat) (w : World) (s : Z.σ) (en : Ending) (w' : World) : Prop :=
  en = .returned (.tuple #[.slice none 0 0, .int .i64 1]) ∧ Out Z n 0 w s w' 0 s

theorem out_refl {Z : Src} {n c : Nat} {w w' : World} {s : Z.σ} (hI : Z.I w s) (hT : Tabs w) (k : Below w.heap.size w w') : Out Z n c w s w' 0 s :=
  ⟨Z.kp w w' s (fun _ => False) hI (Kp.of_below k) (fun _ _ h => h), Kp.of_below k, hT.below k, fun _ h => .inl h, fun _ h => .inl h, Ev.refl _ _ _ _ _⟩

set_option maxRecDepth 100000 in
set_option maxHeartbeats 1000000 in
theorem tincl_arg (Z : Src) (n : Nat) (i : Int) (w : World) (s : Z.σ) (hI : Z.I w s) (hT : Tabs w) (hn : n ≤ 1024) (hi : i < 0 ∨ (n : Int) ≤ i) :
    Calls Tryd.prog 20 #[.iface Z.T Z.x, .int .i64 n, .int .i64 i] w (ArgPost Z n w s) := by
  have HI := Lib.hid hI
  have HT := Lib.hid hT
  clear hI hT
  go_enter Tryd.func20, Tryd.ntmps20
  go_wp2_with fail
  have hb1 : Below w.heap.size w (w.alloc (.cells #[.int .i64 i] 3)) := (Below.refl _ _).alloc (Nat.le_refl _) _
  have hx := cell_of_blk (blk_new w (.cells #[.int .i64 i] 3)) 0 rfl
  generalize w.alloc (.cells #[.int .i64 i] 3) = w1 at hb1 hx ⊢
  refine (newReader_any Z n w1 s (Z.kp w w1 s (fun _ => False) HI.out (Kp.of_below hb1) (fun _ _ h => h)) (HT.out.below hb1) hn).mono ?_
  rintro en w2 ⟨rb, kb, rfl, hR, hb2, -, -⟩
  have x2 : w2.cell? ⟨w.heap.size, 0, none⟩ = some (.int .i64 i) := (hb2.cell (p := ⟨w.heap.size, 0, none⟩) (cell_lt hx)).trans hx
  have HB := Lib.hid (hb1.trans (hb2.mono hb1.size))
  clear hb1 hb2 hx hR
  by_cases h : i < 0
  · go_wp2_with fail
    go_ret2
    exact ⟨rfl, out_refl HI.out HT.out HB.out⟩
  · have h2 : (n : Int) ≤ i := by omega
    go_wp2_with fail
    go_ret2
    exact ⟨rfl, out_refl HI.out HT.out HB.out⟩

set_option maxRecDepth 100000 in
set_option maxHeartbeats 1000000 in
theorem tincl_ok (Z : Src) (n i : Nat) (V : Nat → Nat → ByteArray) (hV : Vals Z n V) (w : World) (s : Z.σ) (hI : Z.I w s) (hT : Tabs w) (hn : n ≤ 1024) (hi : i < n) (hlog : (Z.log s).length ≤ 400000000) :
    Calls Tryd.prog 20 #[.iface Z.T Z.x, .int .i64 n, .int .i64 i] w (PrfPost Z n (inclG (rootV V) 0 n i) w s) := by
  have HI := Lib.hid hI
  have HT := Lib.hid hT
  clear hI hT
  go_enter Tryd.func20, Tryd.ntmps20
  go_wp2_with fail
  have hb1 : Below w.heap.size w (w.alloc (.cells #[.int .i64 i] 3)) := (Below.refl _ _).alloc (Nat.le_refl _) _
  have hx := cell_of_blk (blk_new w (.cells #[.int .i64 i] 3)) 0 rfl
  have hsz1 := size_alloc w (.cells #[.int .i64 i] 3)
  generalize w.alloc (.cells #[.int .i64 i] 3) = w1 at hb1 hx hsz1 ⊢
  refine (newReader_any Z n w1 s (Z.kp w w1 s (fun _ => False) HI.out (Kp.of_below hb1) (fun _ _ h => h)) (HT.out.below hb1) hn).mono ?_
  rintro en w2 ⟨rb, kb, rfl, hR, hb2, hrb, hkb⟩
  have x2 : w2.cell? ⟨w.heap.size, 0, none⟩ = some (.int .i64 i) := (hb2.cell (p := ⟨w.heap.size, 0, none⟩) (cell_lt hx)).trans hx
  have HB := Lib.hid (hb1.trans (hb2.mono hb1.size))
  have HR := Lib.hid hR
  have hsz2 := hb2.size
  clear hb1 hb2 hx hR
  go_wp2_with fail
  refine (down_any Z rb kb n w.heap.size i V hV (incR i) incM (incJ V n i) (inc_downs V n i) _ _ (pred_incR w.heap.size i (by omega)) (pred_incM w.heap.size i) w2 s HR.out x2 (by omega) (by omega) (fun h => by have := Z.lt w s HI.out _ h; omega) (inc_start V n i hi) hlog).mono ?_
  rintro en w3 ⟨a, b, l, wh, e', s', v, rfl, hab, hbn, -, ho, hll, hls, hL, hdis, hj⟩
  have c2 : w3.cell? ⟨rb, 2, none⟩ = some (.int .i64 e') := cell_of_blk hL.rd.blk 2 rfl
  have hO := out_of_left HB.out (by omega) (by omega) (hL.mono (show 2 * (n - (b - a)) ≤ 2 * n by omega))
  have HO := Lib.hid hO
  have HOw := Lib.hid ho
  have HJ := Lib.hid hj
  have hszO := hO.kp.size
  have HL3 := Lib.hid (fun k hk => Z.lt w3 s' hL.rd.src k hk)
  clear hO ho hj hL x2 hdis
  go_wp2_with fail
  by_cases he : e' = 0
  · subst he
    obtain ⟨h1, h2⟩ := HJ.out rfl
    have hfin := inc_end h1 h2
    have HF := Lib.hid hfin
    clear h1 h2 hfin HJ
    refine (proof_ok rb w2.heap.size v l w3 #[] c2 HOw.out (by omega)).mono ?_
    rintro en w4 ⟨p, rfl, hp, hb4⟩
    have HP := Lib.hid hp
    have HO4 := Lib.hid (HO.out.below hb4)
    clear hp hb4
    go_wp2_with fail
    go_ret2
    exact ⟨p, 0, s', l.reverse, rfl, HO4.out, HP.out.base (fun g hg => by have := (OwnL.lt HP.out g hg).1; omega), (fun g hg h => by have := (OwnL.lt HP.out g hg).1; have := HL3.out g h; omega), fun _ => HF.out, fun h => absurd rfl h⟩
  · refine (proof_err rb v w3 e' he c2).mono ?_
    rintro en w4 ⟨rfl, hb4⟩
    have HO4 := Lib.hid (HO.out.below hb4)
    clear hb4
    go_wp2_with fail
    go_ret2
    exact ⟨_, e', s', [], rfl, HO4.out, ownL_nil _ _, (fun g hg => by cases hg), fun h => absurd h he, fun _ => rfl⟩

set_option maxRecDepth 100000 in
set_option maxHeartbeats 1000000 in
theorem tcons_arg (Z : Src) (n : Nat) (m : Int) (w : World) (s : Z.σ) (hI : Z.I w s) (hT : Tabs w) (hn : n ≤ 1024) (hm : m < 0 ∨ (n : Int) < m) :
    Calls Tryd.prog 23 #[.iface Z.T Z.x, .int .i64 n, .int .i64 m] w (ArgPost Z n w s) := by
  have HI := Lib.hid hI
  have HT := Lib.hid hT
  clear hI hT
  go_enter Tryd.func23, Tryd.ntmps23
  go_wp2_with fail
  have hb1 : Below w.heap.size w (w.alloc (.cells #[.int .i64 m] 3)) := (Below.refl _ _).alloc (Nat.le_refl _) _
  have hx := cell_of_blk (blk_new w (.cells #[.int .i64 m] 3)) 0 rfl
  generalize w.alloc (.cells #[.int .i64 m] 3) = w1 at hb1 hx ⊢
  refine (newReader_any Z n w1 s (Z.kp w w1 s (fun _ => False) HI.out (Kp.of_below hb1) (fun _ _ h => h)) (HT.out.below hb1) hn).mono ?_
  rintro en w2 ⟨rb, kb, rfl, hR, hb2, -, -⟩
  have x2 : w2.cell? ⟨w.heap.size, 0, none⟩ = some (.int .i64 m) := (hb2.cell (p := ⟨w.heap.size, 0, none⟩) (cell_lt hx)).trans hx
  have HB := Lib.hid (hb1.trans (hb2.mono hb1.size))
  clear hb1 hb2 hx hR
  by_cases h : m < 0
  · go_wp2_with fail
    go_ret2
    exact ⟨rfl, out_refl HI.out HT.out HB.out⟩
  · have h2 : (n : Int) < m := by omega
    go_wp2_with fail
    go_ret2
    exact ⟨rfl, out_refl HI.out HT.out HB.out⟩

set_option maxRecDepth 100000 in
set_option maxHeartbeats 1000000 in
theorem tcons_zero (Z : Src) (n : Nat) (w : World) (s : Z.σ) (hI : Z.I w s) (hT : Tabs w) (hn : n ≤ 1024) :
    Calls Tryd.prog 23 #[.iface Z.T Z.x, .int .i64 n, .int .i64 0] w (PrfPost Z n [] w s) := by
  have HI := Lib.hid hI
  have HT := Lib.hid hT
  clear hI hT
  go_enter Tryd.func23, Tryd.ntmps23
  go_wp2_with fail
  have hb1 : Below w.heap.size w (w.alloc (.cells #[.int .i64 0] 3)) := (Below.refl _ _).alloc (Nat.le_refl _) _
  have hx := cell_of_blk (blk_new w (.cells #[.int .i64 0] 3)) 0 rfl
  generalize w.alloc (.cells #[.int .i64 0] 3) = w1 at hb1 hx ⊢
  refine (newReader_any Z n w1 s (Z.kp w w1 s (fun _ => False) HI.out (Kp.of_below hb1) (fun _ _ h => h)) (HT.out.below hb1) hn).mono ?_
  rintro en w2 ⟨rb, kb, rfl, hR, hb2, -, -⟩
  have x2 : w2.cell? ⟨w.heap.size, 0, none⟩ = some (.int .i64 0) := (hb2.cell (p := ⟨w.heap.size, 0, none⟩) (cell_lt hx)).trans hx
  have HB := Lib.hid (hb1.trans (hb2.mono hb1.size))
  clear hb1 hb2 hx hR
  go_wp2_with fail
  go_ret2
  exact ⟨_, 0, s, [], rfl, out_refl HI.out HT.out HB.out, ownL_nil _ _, (fun g hg => by cases hg), fun _ => rfl, fun _ => rfl⟩

set_option maxRecDepth 100000 in
set_option maxHeartbeats 2000000 in
theorem tcons_ok (Z : Src) (n m : Nat) (V : Nat → Nat → ByteArray) (hV : Vals Z n V) (w : World) (s : Z.σ) (hI : Z.I w s) (hT : Tabs w) (hn : n ≤ 1024) (hm0 : 0 < m) (hm : m ≤ n) (hlog : (Z.log s).length ≤ 400000000) :
    Calls Tryd.prog 23 #[.iface Z.T Z.x, .int .i64 n, .int .i64 m] w (PrfPost Z n (partG (rootV V) m 0 n true) w s) := by
  obtain ⟨i0, hi0, hz0, hz1, hz2⟩ := info_parts infoStr
  have HI2 := Lib.hid hz2
  have HI := Lib.hid hI
  have HT := Lib.hid hT
  clear hI hT hz2
  have hmz : ¬ (m : Int) = 0 := by omega
  go_enter Tryd.func23, Tryd.ntmps23
  go_wp2_with fail
  have hb1 : Below w.heap.size w (w.alloc (.cells #[.int .i64 m] 3)) := (Below.refl _ _).alloc (Nat.le_refl _) _
  have hx := cell_of_blk (blk_new w (.cells #[.int .i64 m] 3)) 0 rfl
  have hsz1 := size_alloc w (.cells #[.int .i64 m] 3)
  generalize w.alloc (.cells #[.int .i64 m] 3) = w1 at hb1 hx hsz1 ⊢
  refine (newReader_any Z n w1 s (Z.kp w w1 s (fun _ => False) HI.out (Kp.of_below hb1) (fun _ _ h => h)) (HT.out.below hb1) hn).mono ?_
  rintro en w2 ⟨rb, kb, rfl, hR, hb2, hrb, hkb⟩
  have x2 : w2.cell? ⟨w.heap.size, 0, none⟩ = some (.int .i64 m) := (hb2.cell (p := ⟨w.heap.size, 0, none⟩) (cell_lt hx)).trans hx
  have HB := Lib.hid (hb1.trans (hb2.mono hb1.size))
  have HR := Lib.hid hR
  have hsz2 := hb2.size
  clear hb1 hb2 hx hR
  go_wp2_with fail
  refine (down_any Z rb kb n w.heap.size m V hV (conR m) (conM m) (conJ V n m) (con_downs V n m) _ _ (pred_conR w.heap.size m) (pred_conM w.heap.size m) w2 s HR.out x2 (by omega) (by omega) (fun h => by have := Z.lt w s HI.out _ h; omega) (con_start V n m hm0 hm) hlog).mono ?_
  rintro en w3 ⟨a, b, l, wh, e', s', v, rfl, hab, hbn, hcut, ho, hll, hls, hL, hdis, hj⟩
  have HL := Lib.hid hL
  have HOw := Lib.hid ho
  have HJ := Lib.hid hj
  have HD := Lib.hid hdis
  have HC := Lib.hid hcut
  have hlen3 := hL.ev.len
  have hszL := hL.kp.size
  have c2 : w3.cell? ⟨rb, 2, none⟩ = some (.int .i64 e') := cell_of_blk hL.rd.blk 2 rfl
  clear ho hj hL hdis hcut x2
  cases wh with
  | true =>
    have hO := out_of_left HB.out (by omega) (by omega) (HL.out.mono (show 2 * (n - (b - a)) ≤ 2 * n by omega))
    have HO := Lib.hid hO
    have HL3 := Lib.hid (fun k hk => Z.lt w3 s' HL.out.rd.src k hk)
    have hszO := hO.kp.size
    clear hO
    go_wp2_with fail
    by_cases he : e' = 0
    · subst he
      obtain ⟨h1, h2⟩ := HJ.out rfl
      have hfin := con_end h1 h2
      have HF := Lib.hid hfin
      clear h1 h2 hfin HJ
      refine (proof_ok rb w2.heap.size v l w3 #[] c2 HOw.out (by omega)).mono ?_
      rintro en w4 ⟨p, rfl, hp, hb4⟩
      have HP := Lib.hid hp
      have HO4 := Lib.hid (HO.out.below hb4)
      clear hp hb4
      go_wp2_with fail
      go_ret2
      exact ⟨p, 0, s', l.reverse, rfl, HO4.out, HP.out.base (fun g hg => by have := (OwnL.lt HP.out g hg).1; omega), (fun g hg h => by have := (OwnL.lt HP.out g hg).1; have := HL3.out g h; omega), fun _ => HF.out.symm, fun h => absurd rfl h⟩
    · refine (proof_err rb v w3 e' he c2).mono ?_
      rintro en w4 ⟨rfl, hb4⟩
      have HO4 := Lib.hid (HO.out.below hb4)
      clear hb4
      go_wp2_with fail
      go_ret2
      exact ⟨_, e', s', [], rfl, HO4.out, ownL_nil _ _, (fun g hg => by cases hg), fun h => absurd h he, fun _ => rfl⟩
  | false =>
    obtain ⟨d, hd⟩ : ∃ d, d = b - a := ⟨_, rfl⟩
    have hbd : a + d = b := by omega
    have HDd := Lib.hid hd
    have HBd := Lib.hid hbd
    have HC2 := Lib.hid (show Cut a d by rw [hd]; exact HC.out)
    clear hd hbd c2
    go_wp2_with fail
    have h1 := rroot_any Z rb kb n V hV d a w3 e' s' HL.out.rd HC2.out (by have := HBd.out; omega) (by have := HDd.out; omega)
    rw [HBd.out] at h1
    refine h1.mono ?_
    rintro en w4 ⟨t1, e1, s1, rfl, hL1, hv1, ht1⟩
    have hO3 := OwnL.kp HOw.out hL1.kp (fun g hg h => h.elim (HD.out g hg).1 (fun h => h.elim (HD.out g hg).2.1 (fun h => (HD.out g hg).2.2 (Z.sub _ _ h))))
    have hL1' := HL.out.trans hL1
    have hD3 : ∀ g, v.ownBlock = some g → g ≠ rb ∧ g ≠ kb ∧ ¬ Z.R s1 g ∧ g < w4.heap.size := fun g hg => by
      have h3 := OwnL.lt HOw.out g hg
      refine ⟨(HD.out g hg).1, (HD.out g hg).2.1, fun h => ?_, (OwnL.lt hO3 g hg).2⟩
      rcases hL1.rg g h with h | h
      · exact (HD.out g hg).2.2 h
      · omega
    have hsz4 := hL1'.kp.size
    have HL3 := Lib.hid hL1'
    have HO3 := Lib.hid hO3
    have HV1 := Lib.hid hv1
    have HD3 := Lib.hid hD3
    have HZ := Lib.hid hL1.ev.zero
    clear hL1 hL1' hv1 h1 hO3 hD3
    go_wp2_with (first | (at_builtin; refine wpList_appL _ rfl _ _ 29 rfl i0 (.string ⟨#[]⟩) 16 Tryd.underlying29 hi0 hz0 hz1 HI2.out rfl (by decide) w2.heap.size _ l rfl (OwnL.alloc HO3.out _) t1 rfl ⟨w4.heap.size, 0, none⟩ 1 rfl (one_str w4 _ _) ?_ ?_ (by decide) ?_ ?_) | fail)
    · intro u hu; simp at hu; subst hu; rfl
    · omega
    · rw [size_alloc]; omega
    intro v5 w5 ho5 hg5 hown5
    have hR5 : Rd Z rb kb n w5 e1 s1 := by
      have h3 := HL3.out.rd.below ((Below.refl _ _).alloc (Nat.le_refl _) (.cells #[.string t1] 9))
      refine h3.kp (U := fun i => v.ownBlock = some i) ⟨hg5.os, hg5.tape, hg5.output, hg5.size, fun i hi hn => hg5.block i hi (fun e => hn e.symm)⟩ (fun h => (HD3.out _ h).1 rfl) (fun h => (HD3.out _ h).2.1 rfl) (fun i h1 h2 => (HD3.out _ h2).2.2.1 h1) (fun i hi => ?_)
      have := (OwnL.lt HO3.out i hi).1
      have := HR.out.tabs.size
      omega
    have hK5 : Kp (RdS Z rb kb s) w2 w5 := (HL3.out.kp.alloc _).grown hg5 (fun i hi => .inr (OwnL.lt HO3.out i hi).1)
    have hL5 : Left Z rb kb n (2 * (n - (b - a)) + 2 * d) w2 0 s w5 e1 s1 := ⟨hR5, hK5, HL3.out.rg, HL3.out.sg, HL3.out.ev⟩
    have hO := out_of_left HB.out (by omega) (by omega) (hL5.mono (show 2 * (n - (b - a)) + 2 * d ≤ 2 * n by have := HDd.out; omega))
    have HO := Lib.hid hO
    have HLt := Lib.hid (fun k hk => Z.lt w5 s1 hR5.src k hk)
    have hszO := hO.kp.size
    have c2 : w5.cell? ⟨rb, 2, none⟩ = some (.int .i64 e1) := cell_of_blk hR5.blk 2 rfl
    have HO5 := Lib.hid ho5
    clear hO hL5 hK5 hR5 ho5 hg5 hown5
    go_wp2_with fail
    by_cases he : e1 = 0
    · have hv := HV1.out he
      have he0 := HZ.out he
      obtain ⟨h1, h2⟩ := HJ.out he0
      have hfin := con_end h1 h2
      rw [← HDd.out] at hfin
      subst he
      have HF := Lib.hid hfin
      have HVt := Lib.hid hv
      clear h1 h2 hfin HJ hv
      refine (proof_ok rb w2.heap.size v5 (l ++ [t1]) w5 #[] c2 HO5.out (by rw [List.length_append]; simp; omega)).mono ?_
      rintro en w6 ⟨p, rfl, hp, hb6⟩
      have HP := Lib.hid hp
      have HO6 := Lib.hid (HO.out.below hb6)
      clear hp hb6
      go_wp2_with fail
      go_ret2
      exact ⟨p, 0, s1, (l ++ [t1]).reverse, rfl, HO6.out, HP.out.base (fun g hg => by have := (OwnL.lt HP.out g hg).1; omega), (fun g hg h => by have := (OwnL.lt HP.out g hg).1; have := HLt.out g h; omega), fun _ => by rw [HF.out, HVt.out]; rfl, fun h => absurd rfl h⟩
    · refine (proof_err rb v5 w5 e1 he c2).mono ?_
      rintro en w6 ⟨rfl, hb6⟩
      have HO6 := Lib.hid (HO.out.below hb6)
      clear hb6
      go_wp2_with fail
      go_ret2
      exact ⟨_, e1, s1, [], rfl, HO6.out, ownL_nil _ _, (fun g hg => by cases hg), fun h => absurd h he, fun _ => rfl⟩
end Go.Proofs.YtobepddifflpdaaDoor
