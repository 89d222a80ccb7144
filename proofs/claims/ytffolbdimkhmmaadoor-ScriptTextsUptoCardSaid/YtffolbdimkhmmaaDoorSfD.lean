import Derived.Test.YtffolbdimkhmmaaDoorSfC
set_option linter.unusedVariables false
set_option linter.unusedSimpArgs false
namespace Go.Proofs.YtffolbdimkhmmaaDoor
open Go Go.RowKit Go.Lib

/-! ### steps copied behind steps -/
theorem list_of {α : Type} {Q : Nat → α → Prop} : ∀ n : Nat, (∀ i, i < n → ∃ x, Q i x) → ∃ L : List α, L.length = n ∧ ∀ i x, L[i]? = some x → Q i x
  | 0, _ => ⟨[], rfl, fun i x h => by simp at h⟩
  | n + 1, h => by
    obtain ⟨L, hl, hL⟩ := list_of n fun i hi => h i (by omega)
    obtain ⟨x, hx⟩ := h n (by omega)
    refine ⟨L ++ [x], by rw [List.length_append, hl]; rfl, fun i y hy => ?_⟩
    by_cases hi : i < n
    · rw [List.getElem?_append_left (by omega)] at hy; exact hL i y hy
    · by_cases he : i = n
      · subst he
        rw [List.getElem?_append_right (by omega), hl, Nat.sub_self] at hy
        obtain rfl : x = y := by simpa using hy
        exact hx
      · rw [List.getElem?_eq_none (by rw [List.length_append]; simp; omega)] at hy; cases hy
/-- the steps' values. -/
theorem st_vals {w : World} {v : Value} {L : List StP} (h : StM w v L) : ∃ LL : List (StP × Value), LL.map (·.1) = L ∧ (∀ y ∈ LL, IntsM w y.2 y.1.keep) ∧
    ∀ (a : Addr) (n c : Nat), v = .slice (some a) n c → ∀ j u, (LL.flatMap stepL)[j]? = some u → w.cell? (a.add j) = some u := by
  obtain ⟨ad, cap, rfl, -, -, hc⟩ := h
  obtain ⟨LL, hl, hq⟩ := list_of (α := StP × Value) (Q := fun i y => L[i]? = some y.1 ∧ IntsM w y.2 y.1.keep ∧ ∃ pb po, ad = some ⟨pb, po, none⟩ ∧ ∀ j u, (stepL y)[j]? = some u → w.cell? ⟨pb, po + i * 6 + j, none⟩ = some u) L.length fun i hi => by
    obtain ⟨pb, po, kv, h1, h2, h3⟩ := hc i _ (List.getElem?_eq_getElem hi)
    exact ⟨(_, kv), List.getElem?_eq_getElem hi, h3, pb, po, h1, h2⟩
  refine ⟨LL, ?_, fun y hy => ?_, fun a n c hv j u hu => ?_⟩
  · apply List.ext_getElem?
    intro i
    rw [List.getElem?_map]
    cases hy : LL[i]? with
    | none =>
      have : LL.length ≤ i := List.getElem?_eq_none_iff.1 hy
      exact (List.getElem?_eq_none (by omega)).symm
    | some y => exact (hq i y hy).1.symm
  · obtain ⟨i, hi, rfl⟩ := List.getElem_of_mem hy
    exact (hq i _ (List.getElem?_eq_getElem hi)).2.1
  · have hj : j < LL.length * 6 := by
      have h1 := (List.getElem?_eq_some_iff.1 hu).1
      have h2 : (LL.flatMap stepL).length = LL.length * 6 := by
        clear hu hv hl hq h1
        induction LL with
        | nil => rfl
        | cons y r ih => rw [List.flatMap_cons, List.length_append, ih, List.length_cons]; show 6 + _ = _; omega
      omega
    have hi : j / 6 < LL.length := by omega
    obtain ⟨-, -, pb', po', e, hcc⟩ := hq (j / 6) _ (List.getElem?_eq_getElem hi)
    injection hv with hv
    rw [e] at hv
    injection hv with hv
    subst hv
    have h3 := flat_get stepL 6 (fun _ => rfl) LL (j / 6) _ (List.getElem?_eq_getElem hi) (j % 6) (by omega)
    have e6 : j / 6 * 6 + j % 6 = j := by omega
    rw [e6, hu] at h3
    have h4 := hcc (j % 6) u h3.symm
    rw [Nat.add_assoc, e6] at h4
    rw [Lib.add_plain]
    exact h4
theorem step_cells (y : StP × Value) (h : y.2.oneCell' = true) : ∀ u ∈ stepL y, u.oneCell' = true := by
  intro u hu
  simp only [stepL, List.mem_cons, List.not_mem_nil, or_false] at hu
  rcases hu with rfl | rfl | rfl | rfl | rfl | rfl
  · rfl
  · rfl
  · rfl
  · rfl
  · rfl
  · exact h
theorem ints_one {w : World} {v : Value} {l : List Int} (h : IntsM w v l) : v.oneCell' = true := by
  obtain ⟨ad, cap, rfl, -⟩ := h
  rfl
set_option maxRecDepth 100000 in
theorem wpList_appSt {P : Program} (w : World) {ops : Array Oper} {rest : List Oper} {o : Oper} {a : Act} {Q : Exit → Act → World → Prop} (hP : P = Tryd.prog) (hgd : o.guard = none) (sl x : Operand)
    (ho : o.op = .call { callee := .builtin .append, args := #[sl, x], argTypes := #[23, 23] }) (base : Nat) (v : Value) (D : List (StP × Value)) (hs : a.eval sl = v) (hown : OwnSt w base v D)
    (v2 : Value) (L : List StP) (hx : a.eval x = v2) (W0 : World) (hM : StM W0 v2 L) (hW : Below W0.heap.size W0 w) (hform : v2 = .slice none 0 0 ∨ ∃ a9 n c, v2 = .slice (some a9) n c) (hlen : D.length + L.length ≤ 1000000000) (hbase : base ≤ w.heap.size)
    (h : ∀ LL v' w', LL.map (·.1) = L → (∀ y ∈ LL, IntsM W0 y.2 y.1.keep) → OwnSt w' base v' (D ++ LL) → w.grownBy w' v.ownBlock → wpList P ops Q rest (a.put o.dst v') w') : wpList P ops Q (o :: rest) a w := by
  subst hP
  obtain ⟨i, hi, hz0, hz1, hz2⟩ := info_parts infoSt
  obtain ⟨LL, h1, h2, h3⟩ := st_vals hM
  have done : ∀ v' w', (Builtin.append_ #[23, 23] o.type #[v, v2]).run Tryd.prog w = .ok v' w' → OwnSt w' base v' (D ++ LL) → w.grownBy w' v.ownBlock → wpList Tryd.prog ops Q (o :: rest) a w := fun v' w' hr h4 h5 => by
    refine wpList_plain hgd fun K hK => ?_
    unfold Oper.wp execOp
    simp only [ho, resolve, invoke, builtin, Sem.run_bind, Sem.run_pure, Result.andThen_ok, List.map_toArray, List.map_cons, List.map_nil, hs, hx, hr]
    exact hK _ _ (h LL v' w' h1 h2 h4 h5)
  have hll : LL.length = L.length := by rw [← h1, List.length_map]
  rcases hform with rfl | ⟨a9, n, c, rfl⟩
  · have hy : LL = [] := by
      obtain ⟨_, _, e, -⟩ := hM
      injection e with _ e
      exact List.length_eq_zero_iff.1 (by omega)
    subst hy
    exact done v w (run_append_owned_none (P := Tryd.prog) (w := w) base 23 o.type TSt i 6 Tryd.underlying23 hi v D.length (D.flatMap stepL) hown) (by rw [List.append_nil]; exact hown) (World.grownBy.refl w _)
  · have hn : n = LL.length := by
      obtain ⟨_, _, e, -⟩ := hM
      injection e with _ e
      omega
    subst hn
    have hfl : (LL.flatMap stepL).length = LL.length * 6 := by
      clear h1 h2 h3 hll hM hx done
      induction LL with
      | nil => rfl
      | cons y r ih => rw [List.flatMap_cons, List.length_append, ih, List.length_cons]; show 6 + _ = _; omega
    obtain ⟨v', w', hr, h4, h5, _, h6⟩ := run_append_own_at (P := Tryd.prog) w base 23 o.type TSt i (.agg #[.int .i64 0, .int .i64 0, .int .i64 0, .int .i64 0, .string ⟨#[]⟩, .slice none 0 0]) 6 72 Tryd.underlying23 hi hz0 hz1 hz2 rfl (by decide) v D.length (D.flatMap stepL) hown a9 LL.length c (LL.flatMap stepL) hfl (fun j u hu => by
        have h9 := h3 a9 _ c rfl j u hu
        exact (hW.cell (cell_lt h9)).trans h9) (fun u hu => by
          obtain ⟨y, hy, hu⟩ := List.mem_flatMap.1 hu
          exact step_cells y (ints_one (h2 y hy)) u hu) (by unfold maxLen; omega) (by omega) hbase
    refine done v' w' hr ?_ h5
    unfold OwnSt OwnL
    rw [List.length_append, List.flatMap_append]
    exact h4
end Go.Proofs.YtffolbdimkhmmaaDoor
