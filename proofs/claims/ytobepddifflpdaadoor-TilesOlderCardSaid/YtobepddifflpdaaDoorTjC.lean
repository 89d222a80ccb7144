import Derived.Test.YtobepddifflpdaaDoorTjA
set_option linter.unusedVariables false
namespace Go.Proofs.YtobepddifflpdaaDoor
open Go Go.RowKit Go.Lib Go.Sort Go.Maps Go.WideMaps

/-! a proof that is taken apart from the front -/
def PS (w : World) (v : Value) (l : List ByteArray) : Prop :=
  ∃ ao cap, v = .slice ao l.length cap ∧ l.length ≤ cap ∧ cap ≤ 9223372036854775807 ∧ ∀ (j : Nat) (t : ByteArray), l[j]? = some t → ∃ g off, ao = some ⟨g, off, none⟩ ∧ w.cell? ⟨g, off + j, none⟩ = some (.string t)
theorem PS.below {w w' : World} {v : Value} {l : List ByteArray} (h : PS w v l) (k : Below w.heap.size w w') : PS w' v l := by
  obtain ⟨ao, cap, h1, h2, h3, h4⟩ := h
  refine ⟨ao, cap, h1, h2, h3, fun j t ht => ?_⟩
  obtain ⟨g, off, h5, h6⟩ := h4 j t ht
  exact ⟨g, off, h5, (k.cell (p := ⟨g, off + j, none⟩) (cell_lt h6)).trans h6⟩
theorem PS.of_own {w : World} {b : Nat} {v : Value} {l : List ByteArray} (h : OwnS w b v l) : PS w v l := by
  obtain ⟨ao, cap, h1, h2, h3, h4⟩ := cells_of_ownS h
  refine ⟨ao, cap, h1, h2, h3, fun j t ht => ?_⟩
  obtain ⟨g, h5, h6⟩ := h4 j t ht
  exact ⟨g, 0, h5, by rw [Nat.zero_add]; exact h6⟩
/-- its head, and what is left. -/
theorem PS.cons {w : World} {v : Value} {t : ByteArray} {l : List ByteArray} (h : PS w v (t :: l)) : ∃ g off cap ao2, v = .slice (some ⟨g, off, none⟩) (l.length + 1) cap ∧ l.length + 1 ≤ cap ∧ cap ≤ 9223372036854775807 ∧ w.cell? ⟨g, off, none⟩ = some (.string t) ∧
    (if cap = 1 then some (⟨g, off, none⟩ : Addr) else some ⟨g, off + 1, none⟩) = ao2 ∧ PS w (.slice ao2 l.length (cap - 1)) l := by
  obtain ⟨ao, cap, h1, h2, h3, h4⟩ := h
  obtain ⟨g, off, rfl, h6⟩ := h4 0 t rfl
  rw [List.length_cons] at h1 h2
  refine ⟨g, off, cap, _, h1, h2, h3, h6, rfl, ⟨_, _, rfl, by omega, by omega, fun j u hu => ?_⟩⟩
  have hj : j < l.length := (List.getElem?_eq_some_iff.1 hu).1
  obtain ⟨g', off', he, hq⟩ := h4 (j + 1) u (by rw [List.getElem?_cons_succ]; exact hu)
  injection he with he
  injection he with e1 e2
  subst e1
  subst e2
  exact ⟨g, off + 1, by rw [if_neg (by omega)], by rw [Nat.add_assoc, Nat.add_comm 1 j]; exact hq⟩

def BothPost (A B : ByteArray) (rest : List ByteArray) (w : World) (e : Ending) (w' : World) : Prop :=
  ∃ v, e = .returned (.tuple #[.string A, .string B, v, .bool true]) ∧ PS w' v rest ∧ Below w.heap.size w w'

set_option maxRecDepth 100000 in
set_option maxHeartbeats 2000000 in
theorem both_any (ps : Nat → ByteArray) (hps : ∀ i, (ps i).size ≤ 10000000000) : ∀ (n m a : Nat) (wh : Bool) (old : ByteArray) (rest : List ByteArray) (v : Value) (w : World), 1 ≤ m → m ≤ n → n ≤ 100000 → (wh = true → old = rootL ps a m) → rest.length + n ≤ 1000000 →
    PS w v (partG (rootL ps) m a n wh ++ rest) →
    Calls Tryd.prog 56 #[.int .i64 m, .int .i64 n, .bool wh, .string old, v] w (BothPost (rootL ps a m) (rootL ps a n) rest w) := by
  have Hps := Lib.hid hps
  clear hps
  intro n
  induction n using Nat.strongRecOn with
  | _ n ih =>
    intro m a wh old rest v w hm1 hmn hn hold hrest hps
    have IH := Lib.hid ih
    have HO := Lib.hid hold
    clear ih hold
    by_cases hone : m = n
    · subst hone
      rw [partG_end (rootL ps) m a m wh (Or.inl (Nat.le_refl _))] at hps
      cases wh with
      | true =>
        have HP := Lib.hid (show PS w v rest from hps)
        clear hps
        go_enter Tryd.func56, Tryd.ntmps56
        go_wp2_with fail
        refine bodyPost_ret (v := .tuple #[.string old, .string old, v, .bool true]) (by simp [results, Tryd.results56, go_sem]) rfl ?_
        refine ⟨v, ?_, HP.out, Below.refl _ _⟩
        rw [← HO.out (by first | trivial | rfl)]
      | false =>
        obtain ⟨g, off, cap, ao2, rfl, hc1, hc2, hc, hao, hp2⟩ := PS.cons (show PS w v (rootL ps a m :: rest) from hps)
        have HP := Lib.hid hp2
        have q := cell_regrown hc
        have hlz : ¬ ((rest.length : Int) + 1) = 0 := by omega
        clear hps hp2 hc
        go_enter Tryd.func56, Tryd.ntmps56
        go_wp2_with fail
        refine wp_region_quiet_below (by kernel_rfl) (by kernel_rfl) ?_
        have hc3 : 1 ≤ cap := by omega
        have hle1 : (1 : Int) ≤ (rest.length : Int) + 1 := by omega
        repeat quiet_step (fail)
        refine wpQuiet_nil ?_
        intro w2 hw2
        obtain ⟨⟨dq, osq⟩, hw''⟩ := hw2
        have hb2 : Below w.heap.size w w2 := by rw [hw'']; exact below_regrown w dq osq
        have HB2 := Lib.hid hb2
        clear hw'' hb2 q
        go_wp2_with fail
        refine bodyPost_ret (v := .tuple #[.string (rootL ps a m), .string (rootL ps a m), .slice ao2 rest.length (cap - 1), .bool true]) (by simp [results, Tryd.results56, go_sem]) rfl ?_
        exact ⟨_, rfl, HP.out.below HB2.out, HB2.out⟩
    · have h2 : 2 ≤ n := by omega
      have hmn2 : ¬ (m : Int) = (n : Int) := by omega
      rw [partG_two (rootL ps) m a n wh (by omega)] at hps
      have HP0 := Lib.hid hps
      obtain ⟨ao, cp, rfl, -, -, -⟩ := hps
      generalize hv : Value.slice ao _ cp = v at *
      go_enter Tryd.func56, Tryd.ntmps56
      go_wp2_with fail
      refine (power_any n w h2 (by omega)).mono ?_
      rintro e w1 ⟨rfl, rfl⟩
      have hBp : Below w1.heap.size w1 w1 := Below.refl _ _
      have HBp := Lib.hid hBp
      clear hBp
      have hk1 := pw_lt h2
      have hk0 := pw_pos n
      have hk2 := pw_le h2
      have hkp : ∃ j, pw n = 2 ^ j := ⟨_, rfl⟩
      have HN := Lib.hid (rootL_two ps a n h2)
      generalize pw n = k at *
      by_cases hlt : m ≤ k
      · have HP := Lib.hid (show PS w1 v (partG (rootL ps) m a k wh ++ [rootL ps (a + k) (n - k)] ++ rest) by have := HP0.out; rw [if_pos hlt] at this; exact this)
        clear HP0
        go_wp2_with fail
        refine (IH.out k hk1 m a wh old ([rootL ps (a + k) (n - k)] ++ rest) v w1 hm1 hlt (by omega) HO.out (by simp; omega) (by rw [← List.append_assoc]; exact HP.out.below HBp.out)).mono ?_
        rintro e w2 ⟨v2, rfl, hp2, hb2⟩
        obtain ⟨g, off, cap, ao2, rfl, hc1, hc2, hc, hao, hp3⟩ := PS.cons (show PS w2 v2 (rootL ps (a + k) (n - k) :: rest) from hp2)
        have HP3 := Lib.hid hp3
        have HB2 := Lib.hid (HBp.out.trans (hb2.mono HBp.out.size))
        have q := cell_regrown hc
        have hlz : ¬ ((rest.length : Int) + 1) = 0 := by omega
        have hle1 : (1 : Int) ≤ (rest.length : Int) + 1 := by omega
        have hc3 : 1 ≤ cap := by omega
        clear hp2 hp3 hc hb2
        have cN : ∀ d os, Calls Tryd.prog 48 #[.string (rootL ps a k), .string (rootL ps (a + k) (n - k))] (grow (redrawn w2 d) os) fun e w'' => e = .returned (.string (nodeB (rootL ps a k) (rootL ps (a + k) (n - k)))) ∧ ∃ p : Regrown, w'' = grow (redrawn w2 p.d) p.os :=
          fun d os => Calls.regrown_of (refnode_any _ _ _ (rootL_size ps _ _ Hps.out) (rootL_size ps _ _ Hps.out))
        go_wp2_with fail
        refine wp_region_quiet_below (by kernel_rfl) (by kernel_rfl) ?_
        repeat quiet_step (with_reducible exact cN _ _)
        refine wpQuiet_nil ?_
        intro w3 hw3
        obtain ⟨⟨dq, osq⟩, hw''⟩ := hw3
        have hb3 : Below w2.heap.size w2 w3 := by rw [hw'']; exact below_regrown w2 dq osq
        have HB3 := Lib.hid hb3
        clear hw'' hb3 q cN
        go_wp2_with fail
        refine bodyPost_ret (v := .tuple #[.string (rootL ps a m), .string (nodeB (rootL ps a k) (rootL ps (a + k) (n - k))), .slice ao2 rest.length (cap - 1), .bool true]) (by simp [results, Tryd.results56, go_sem]) rfl ?_
        refine ⟨_, ?_, HP3.out.below HB3.out, HB2.out.trans (HB3.out.mono HB2.out.size)⟩
        rw [HN.out]
      · have HP := Lib.hid (show PS w1 v (partG (rootL ps) (m - k) (a + k) (n - k) false ++ [rootL ps a k] ++ rest) by have := HP0.out; rw [if_neg hlt] at this; exact this)
        have hM : rootL ps a m = nodeB (rootL ps a k) (rootL ps (a + k) (m - k)) := by
          obtain ⟨j, hj⟩ := hkp
          have := pw_eq (n := m) (k := k) j (by omega) hj (by omega) (by omega)
          rw [rootL_two ps a m (by omega), ← this]
        obtain ⟨m', hm'⟩ : ∃ m', m' = m - k := ⟨_, rfl⟩
        rw [← hm'] at hM HP
        have HM := Lib.hid hM
        have q1 : (m : Int) - (k : Int) = (m' : Int) := by omega
        have q2 : (n : Int) - (k : Int) = ((n - k : Nat) : Int) := by omega
        have hm'1 : 1 ≤ m' := by omega
        have hm'n : m' ≤ n - k := by omega
        clear HP0 hM hm' hkp
        go_wp2_with fail
        refine (IH.out (n - k) (by omega) m' (a + k) false old ([rootL ps a k] ++ rest) v w1 hm'1 hm'n (by omega) (fun h => by cases h) (by simp; omega) (by rw [← List.append_assoc]; exact HP.out.below HBp.out)).mono ?_
        rintro e w2 ⟨v2, rfl, hp2, hb2⟩
        obtain ⟨g, off, cap, ao2, rfl, hc1, hc2, hc, hao, hp3⟩ := PS.cons (show PS w2 v2 (rootL ps a k :: rest) from hp2)
        have HP3 := Lib.hid hp3
        have HB2 := Lib.hid (HBp.out.trans (hb2.mono HBp.out.size))
        have q := cell_regrown hc
        have hlz : ¬ ((rest.length : Int) + 1) = 0 := by omega
        have hle1 : (1 : Int) ≤ (rest.length : Int) + 1 := by omega
        have hc3 : 1 ≤ cap := by omega
        clear hp2 hp3 hc hb2
        have cN : ∀ d os, Calls Tryd.prog 48 #[.string (rootL ps a k), .string (rootL ps (a + k) m')] (grow (redrawn w2 d) os) fun e w'' => e = .returned (.string (nodeB (rootL ps a k) (rootL ps (a + k) m'))) ∧ ∃ p : Regrown, w'' = grow (redrawn w2 p.d) p.os :=
          fun d os => Calls.regrown_of (refnode_any _ _ _ (rootL_size ps _ _ Hps.out) (rootL_size ps _ _ Hps.out))
        have cM : ∀ d os, Calls Tryd.prog 48 #[.string (rootL ps a k), .string (rootL ps (a + k) (n - k))] (grow (redrawn w2 d) os) fun e w'' => e = .returned (.string (nodeB (rootL ps a k) (rootL ps (a + k) (n - k)))) ∧ ∃ p : Regrown, w'' = grow (redrawn w2 p.d) p.os :=
          fun d os => Calls.regrown_of (refnode_any _ _ _ (rootL_size ps _ _ Hps.out) (rootL_size ps _ _ Hps.out))
        go_wp2_with fail
        refine wp_region_quiet_below (by kernel_rfl) (by kernel_rfl) ?_
        repeat quiet_step (first | with_reducible exact cN _ _ | with_reducible exact cM _ _)
        refine wpQuiet_nil ?_
        intro w3 hw3
        obtain ⟨⟨dq, osq⟩, hw''⟩ := hw3
        have hb3 : Below w2.heap.size w2 w3 := by rw [hw'']; exact below_regrown w2 dq osq
        have HB3 := Lib.hid hb3
        clear hw'' hb3 q cN cM
        go_wp2_with fail
        refine bodyPost_ret (v := .tuple #[.string (nodeB (rootL ps a k) (rootL ps (a + k) m')), .string (nodeB (rootL ps a k) (rootL ps (a + k) (n - k))), .slice ao2 rest.length (cap - 1), .bool true]) (by simp [results, Tryd.results56, go_sem]) rfl ?_
        refine ⟨_, ?_, HP3.out.below HB3.out, HB2.out.trans (HB3.out.mono HB2.out.size)⟩
        rw [HN.out, HM.out]
end Go.Proofs.YtobepddifflpdaaDoor
