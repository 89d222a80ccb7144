import Derived.Test.YtffolbdimkhmmaaDoorScV
import Derived.Test.YtffolbdimkhmmaaDoorBu
import Derived.WalkArith
set_option linter.unusedVariables false
set_option linter.unusedSimpArgs false
namespace Go.Proofs.YtffolbdimkhmmaaDoor
open Go Go.RowKit Go.Lib Go.Maps Go.WideMaps

/-! ### the names of the kinds -/
def strR (v : Value) : Option (DataW Unit × List MemPlace) := match v with
  | .string s => some (.lit (.string s.data.toList), [])
  | _ => none
theorem strR_inv {v : Value} {z : DataW Unit × List MemPlace} (h : strR v = some z) : ∃ s : ByteArray, v = .string s ∧ z = (.lit (.string s.data.toList), []) := by
  unfold strR at h
  split at h
  · exact ⟨_, rfl, (Option.some.inj h).symm⟩
  · cases h
def dSt (s : ByteArray) : DataW Unit := .lit (.string s.data.toList)
theorem dSt_inj {a b : ByteArray} (h : dSt a = dSt b) : a = b := by
  unfold dSt at h
  injection h with h
  injection h with h
  exact WideShapes.bytes_inj h
def kI (k : Int) : Lit := .int .i64 k
theorem kI_lit (k : Int) : WideAt.IsKeyLit (kI k) := by trivial
theorem kI_inj {a b : Int} (h : kI a = kI b) : a = b := by
  unfold kI at h
  injection h
theorem keyedI : Keyed Tryd.prog 3 := int_keyed Tryd.underlying3
theorem kI_wf {k : Int} (h : -9223372036854775808 ≤ k ∧ k ≤ 9223372036854775807) : (Lit.int .i64 k).wf = true := WalkArith.wf_i64 h
theorem key_i {k : Int} (h : -9223372036854775808 ≤ k ∧ k ≤ 9223372036854775807) : keyOf Tryd.prog 3 (.int .i64 k) = some (kI k) := keyOf_int_mk (P := Tryd.prog) Tryd.underlying3 (kI_wf h)
theorem zeroStrV (w : World) : (zeroValue 9).run Tryd.prog w = .ok (.string ⟨#[]⟩) w := by kernel_rfl
abbrev TN : TypeId := 63
/-- which kinds have their names already. -/
structure NamesP (N : DataW Unit) (left : Lit → Bool) : Prop where
  tidy : Tidy N
  got : ∀ f ∈ formsL, left (kSt f.1) = false → has N (kI f.2.1) = true ∧ ∀ zd, N.atKey (kI f.2.1) zd = dSt f.1
  none : ∀ k : Int, has N (kI k) = true → ∃ f ∈ formsL, (f.2.1 : Int) = k
theorem forms_one : ∀ f ∈ formsL, ∀ g ∈ formsL, (f.1 = g.1 → f = g) ∧ (f.2.1 = g.2.1 → f = g) := by decide +kernel
theorem NamesP.step {N : DataW Unit} {left : Lit → Bool} (h : NamesP N left) {f : ByteArray × Nat × List UInt8} (hf : f ∈ formsL) : NamesP (N.put (kI f.2.1) (dSt f.1)) (fun z => left z && !z.sameKey (kSt f.1)) := by
  refine ⟨h.tidy.put (kI_lit _) _, fun g hg hl => ?_, fun k hk => ?_⟩
  · by_cases e : g = f
    · subst e
      exact ⟨has_put_same h.tidy.isMap (kI_lit _) _, fun zd => atKey_put_same h.tidy.isMap (kI_lit _) _ _⟩
    · have hl2 : left (kSt g.1) = false := by
        cases hq : left (kSt g.1) with
        | false => rfl
        | true =>
          rw [hq, Bool.true_and] at hl
          have h3 : (kSt g.1).sameKey (kSt f.1) = true := by simpa using hl
          exact absurd ((forms_one g hg f hf).1 (kSt_inj (WideAt.sameKey_eq h3))) e
      obtain ⟨a1, a2⟩ := h.got g hg hl2
      have hne : kI g.2.1 ≠ kI f.2.1 := fun x => e ((forms_one g hg f hf).2 (by have := kI_inj x; omega))
      exact ⟨by rw [has_put_other hne]; exact a1, fun zd => by rw [atKey_put_other hne]; exact a2 zd⟩
  · by_cases e : k = (f.2.1 : Int)
    · exact ⟨f, hf, e.symm⟩
    · rw [has_put_other (fun x => e (kI_inj x))] at hk
      exact h.none k hk
theorem formK_find (k : Int) : (∃ f ∈ formsL, (f.2.1 : Int) = k ∧ formK k = some (f.1, f.2.2)) ∨ ((∀ f ∈ formsL, (f.2.1 : Int) ≠ k) ∧ formK k = none) := by
  unfold formK
  cases h : formsL.find? (fun f => decide ((f.2.1 : Int) = k)) with
  | none =>
    refine .inr ⟨fun f hf e => ?_, rfl⟩
    have := List.find?_eq_none.1 h f hf
    exact this (decide_eq_true e)
  | some f =>
    have h2 := List.find?_some h
    exact .inl ⟨f, List.mem_of_find?_eq_some h, of_decide_eq_true h2, rfl⟩
/-- the look-up of a kind's name. -/
theorem look_name (w : World) (nm n : Nat) (N : DataW Unit) (hm : w.ownsMap Tryd.prog 3 strR nm n N) (h : NamesP N (fun _ => false)) (k : Int) (hk : -9223372036854775808 ≤ k ∧ k ≤ 9223372036854775807) :
    (Instr.lookup TN (.map (some nm)) (.int .i64 k) true).run Tryd.prog w = .ok (match formK k with | some f => .tuple #[.string f.1, .bool true] | none => .tuple #[.string ⟨#[]⟩, .bool false]) w := by
  obtain ⟨v, ps, hrun, hv⟩ := hm.look_ok keyedI Tryd.underlying63 (zeroStrV w) (zd := dSt ⟨#[]⟩) rfl (key_i hk)
  obtain ⟨s, rfl, hs⟩ := strR_inv hv
  have hs' : N.atKey (kI k) (dSt ⟨#[]⟩) = dSt s := congrArg Prod.fst hs
  rw [hrun]
  rcases formK_find k with ⟨f, hf, rfl, e⟩ | ⟨hn, e⟩
  · obtain ⟨e1, e2⟩ := h.got f hf rfl
    rw [e2] at hs'
    rw [e1, e, dSt_inj hs']
  · have e1 : has N (kI k) = false := by
      cases hq : has N (kI k) with
      | false => rfl
      | true =>
        obtain ⟨f, hf, hfk⟩ := h.none k hq
        exact absurd hfk (hn f hf)
    rw [atKey_of_not_has e1] at hs'
    rw [e1, e, ← dSt_inj hs']
theorem size_DF : Maps.size DF19 = 19 := by decide +kernel
/-- the name and the form of a forms' map entry. -/
theorem entry_form {x : ByteArray} {left : Lit → Bool} (hl : ∀ z, left z = true → has DF19 z = true) (hx : left (kSt x) = true) {c : Int × ByteArray} {y : DataW Unit × List MemPlace} (hy : formR (.agg #[.int .i64 c.1, .string c.2]) = some y) (hat : ∀ zd, DF19.atKey (kSt x) zd = y.1) :
    ∃ f ∈ formsL, f.1 = x ∧ (f.2.1 : Int) = c.1 := by
  rcases formW_find x with ⟨f, hf, hfx, -⟩ | ⟨hn, -⟩
  · obtain ⟨e1, -⟩ := at_form (dF 0 ⟨#[]⟩) hf hfx
    have h1 := hat (dF 0 ⟨#[]⟩)
    rw [e1, ← Option.some.inj hy] at h1
    exact ⟨f, hf, hfx, (dF_inv h1).1⟩
  · have := hl _ hx
    rw [no_form (dF 0 ⟨#[]⟩) hn] at this
    cases this

/-! ### a list appended to a list -/
theorem wpList_appLs {α : Type} {e : TypeId} {size : Nat} {mk : α → List Value} {P : Program} (w : World) {ops : Array Oper} {rest : List Oper} {o : Oper} {a : Act} {Q : Exit → Act → World → Prop} (hgd : o.guard = none) (sl x : Operand) (st : TypeId)
    (ho : o.op = .call { callee := .builtin .append, args := #[sl, x], argTypes := #[st, st] }) (i : TypeInfo) (z : Value) (bytes : Nat) (ht : P.underlying st = some (.slice e)) (hi : P.info? e = some i) (hz : i.zero = some z)
    (hsize : i.size = size) (hby : i.bytes = bytes) (hzs : z.cells.size = size) (hsz : 0 < size)
    (base : Nat) (v : Value) (l : List α) (hs : a.eval sl = v) (hown : OwnL e size mk w base v l) (base2 : Nat) (v2 : Value) (ys : List α) (hx : a.eval x = v2) (hown2 : OwnL e size mk w base2 v2 ys) (hmk : ∀ y, (mk y).length = size)
    (h1 : ∀ y ∈ ys, ∀ u ∈ mk y, u.oneCell' = true) (hlen : l.length + ys.length ≤ 1000000000) (hb2 : bytes ≤ 100) (hbase : base ≤ w.heap.size)
    (h : ∀ v' w', OwnL e size mk w' base v' (l ++ ys) → w.grownBy w' v.ownBlock → wpList P ops Q rest (a.put o.dst v') w') : wpList P ops Q (o :: rest) a w := by
  have done : ∀ v' w', (Builtin.append_ #[st, st] o.type #[v, v2]).run P w = .ok v' w' → OwnL e size mk w' base v' (l ++ ys) → w.grownBy w' v.ownBlock → wpList P ops Q (o :: rest) a w := fun v' w' hr h2 h3 => by
    refine wpList_plain hgd fun K hK => ?_
    unfold Oper.wp execOp
    simp only [ho, resolve, invoke, builtin, Sem.run_bind, Sem.run_pure, Result.andThen_ok, List.map_toArray, List.map_cons, List.map_nil, hs, hx, hr]
    exact hK _ _ (h v' w' h2 h3)
  rcases id hown2.2 with ⟨h2, h0⟩ | ⟨g, cap, cur, hv, hb, hh, hc, hm, hz2, htk⟩
  · have hy : ys = [] := List.length_eq_zero_iff.1 h0
    subst hy
    subst h2
    exact done v w (run_append_owned_none (P := P) (w := w) base st o.type e i size ht hi v l.length (l.flatMap mk) hown) (by rw [List.append_nil]; exact hown) (World.grownBy.refl w _)
  · subst hv
    obtain ⟨v', w', hr, h2, h3, _, h4⟩ := run_append_own_at (P := P) w base st o.type e i z size bytes ht hi hz hsize hby hzs hsz v l.length (l.flatMap mk) hown ⟨g, 0, none⟩ ys.length cap (ys.flatMap mk) hown2.1 (fun j u hu => by
        have hj := (List.getElem?_eq_some_iff.1 hu).1
        rw [hown2.1] at hj
        rw [Lib.add_plain, Nat.zero_add]
        rw [← htk, List.getElem?_take, if_pos hj, Array.getElem?_toList] at hu
        simp [World.cell?, hh, hu]) (fun u hu => by obtain ⟨y, hy, hu⟩ := List.mem_flatMap.1 hu; exact h1 y hy u hu) (by unfold maxLen; omega)
      (by have := Nat.mul_le_mul (show l.length + ys.length ≤ 1000000000 from hlen) hb2; omega) hbase
    refine done v' w' hr ?_ h3
    unfold OwnL
    rw [List.length_append, List.flatMap_append]
    exact h2
end Go.Proofs.YtffolbdimkhmmaaDoor
