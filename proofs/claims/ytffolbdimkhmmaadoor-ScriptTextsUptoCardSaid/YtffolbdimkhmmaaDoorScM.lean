import Derived.Test.YtffolbdimkhmmaaDoorWd
import Derived.Test.YtffolbdimkhmmaaDoorSl
import Derived.Test.YtffolbdimkhmmaaDoorScA
import Derived.Maps.OwnSet
import Derived.Maps.RangeWalk
import Derived.WalkLawsBesides
import Derived.WalkSpells
import Derived.Lib.Hide
set_option linter.unusedVariables false
set_option linter.unusedSimpArgs false
namespace Go.Proofs.YtffolbdimkhmmaaDoor
open Go Go.RowKit Go.Maps Go.WideMaps

/-! ### the maps of forms and of places -/
theorem wpList_insert_own {H : Type} {P : Program} (w : World) {ops : Array Oper} {rest : List Oper} {o : Oper} {a : Act} {Q : Exit → Act → World → Prop}
    (hg : o.guard = none) (m x v : Operand) (t : TypeId) (hop : o.op = Op.insert t m x v)
    (k e : TypeId) (K : Keyed P k) (ht : P.underlying t = some (.map k e)) (R : Value → Option (DataW H × List MemPlace)) (b n : Nat) (D : DataW H)
    (hm : a.eval m = .map (some b)) (hown : w.ownsMap P k R b n D) (hn : n < maxLen) (key val : Value) (kl : Lit) (hx : a.eval x = key) (hv : a.eval v = val) (hkey : keyOf P k key = some kl)
    (d : DataW H) (ps : List MemPlace) (hval : R val = some (d, ps))
    (hK : ∀ w', w'.ownsMap P k R b (n + 1) (D.put kl d) → w.grownBy w' (some b) → wpList P ops Q rest (a.put o.dst undef) w') :
    wpList P ops Q (o :: rest) a w := by
  refine wpList_plain hg fun K' hK' => ?_
  obtain ⟨w', hrun, r1, r2⟩ := hown.update K ht hn hkey hval
  unfold Oper.wp
  simp [execOp, hop, hm, hx, hv, hrun, Result.andThen]
  exact hK' _ _ (hK w' r1 r2)

abbrev TF : TypeId := 64
abbrev TFd : TypeId := 66
/-- how a form reads. -/
def formR (v : Value) : Option (DataW Unit × List MemPlace) :=
  match v with
  | .agg c => match c.toList with
    | [.int .i64 k, .string s] => some (.agg [.lit (.int .i64 k), .lit (.string s.data.toList)], [])
    | _ => none
  | _ => none
theorem formR_inv {v : Value} {z : DataW Unit × List MemPlace} (h : formR v = some z) : ∃ (k : Int) (s : ByteArray), v = .agg #[.int .i64 k, .string s] ∧ z = (.agg [.lit (.int .i64 k), .lit (.string s.data.toList)], []) := by
  unfold formR at h
  split at h
  · rename_i c
    split at h
    · rename_i k s hc
      obtain ⟨l⟩ := c
      obtain rfl : l = [.int .i64 k, .string s] := hc
      exact ⟨_, _, rfl, (Option.some.inj h).symm⟩
    · cases h
  · cases h
theorem formR_mk (k : Int) (s : ByteArray) : formR (.agg #[.int .i64 k, .string s]) = some (.agg [.lit (.int .i64 k), .lit (.string s.data.toList)], []) := rfl
def kSt (p : ByteArray) : Lit := .string p.data.toList
def dF (k : Nat) (s : ByteArray) : DataW Unit := .agg [.lit (.int .i64 k), .lit (.string s.data.toList)]
theorem key_lit (p : ByteArray) : WideAt.IsKeyLit (kSt p) := by trivial
theorem kSt_inj {p q : ByteArray} (h : kSt p = kSt q) : p = q := by
  unfold kSt at h
  injection h with h
  exact WideShapes.bytes_inj h
theorem keyedSt : Keyed Tryd.prog 9 := string_keyed Tryd.underlying9
theorem key_st {p : ByteArray} (hp : p.size ≤ maxLen) : keyOf Tryd.prog 9 (.string p) = some (kSt p) := keyOf_string_mk (P := Tryd.prog) Tryd.underlying9 hp
theorem zeroForm (w : World) : (zeroValue 69).run Tryd.prog w = .ok (.agg #[.int .i64 0, .string ⟨#[]⟩]) w := by kernel_rfl
def plB (l : List UInt8) : ByteArray := ⟨l.toArray⟩
theorem dF_inv {k : Nat} {s : ByteArray} {k' : Int} {l : List UInt8} (h : dF k s = .agg [.lit (.int .i64 k'), .lit (.string l)]) : (k : Int) = k' ∧ s.data.toList = l := by
  unfold dF at h
  generalize s.data.toList = m at h
  simp only [DataW.agg.injEq, List.cons.injEq, DataW.lit.injEq, Lit.int.injEq, Lit.string.injEq, true_and, and_true] at h
  exact h
/-- what the forms' map reads as. -/
def putF (D : DataW Unit) (f : ByteArray × Nat × List UInt8) : DataW Unit := D.put (kSt f.1) (dF f.2.1 (plB f.2.2))
def DF19 : DataW Unit := formsL.foldl putF (.map [])
theorem tidyF : ∀ (l : List (ByteArray × Nat × List UInt8)) (D : DataW Unit), Tidy D → Tidy (l.foldl putF D)
  | [], D, h => h
  | f :: l, D, h => tidyF l _ (h.put (by trivial) _)
theorem at_fold (p : ByteArray) (zd : DataW Unit) : ∀ (l : List (ByteArray × Nat × List UInt8)) (D : DataW Unit), Tidy D → (∀ f ∈ l, f.1 ≠ p) → (l.foldl putF D).atKey (kSt p) zd = D.atKey (kSt p) zd ∧ has (l.foldl putF D) (kSt p) = has D (kSt p)
  | [], D, h, _ => ⟨rfl, rfl⟩
  | f :: l, D, h, hn => by
    obtain ⟨h1, h2⟩ := at_fold p zd l (putF D f) (h.put (by trivial) _) (fun g hg => hn g (by simp [hg]))
    have hne : kSt p ≠ kSt f.1 := fun e => hn f (by simp) (kSt_inj e).symm
    rw [List.foldl_cons, h1, h2]
    exact ⟨atKey_put_other hne _ _, has_put_other hne _⟩
theorem at_form {p : ByteArray} (zd : DataW Unit) {f : ByteArray × Nat × List UInt8} (hf : f ∈ formsL) (hp : f.1 = p) : DF19.atKey (kSt p) zd = dF f.2.1 (plB f.2.2) ∧ has DF19 (kSt p) = true := by
  have h1 : ∀ i : Fin 19, ∀ g ∈ formsL.drop (i.1 + 1), g.1 ≠ (formsL.getD i.1 (⟨#[]⟩, 0, [])).1 := by decide +kernel
  obtain ⟨i, hi, rfl⟩ := List.mem_iff_getElem.1 hf
  have hl : formsL.length = 19 := rfl
  have hd : formsL = formsL.take i ++ formsL[i] :: formsL.drop (i + 1) := by rw [← List.drop_eq_getElem_cons hi, List.take_append_drop]
  have hg : formsL.getD i (⟨#[]⟩, 0, []) = formsL[i] := by rw [List.getD_eq_getElem?_getD, List.getElem?_eq_getElem hi]; rfl
  have h2 := h1 ⟨i, by omega⟩
  simp only [hg] at h2
  have ht : Tidy ((formsL.take i).foldl putF (.map [])) := tidyF _ _ tidy_empty
  obtain ⟨e1, e2⟩ := at_fold p zd (formsL.drop (i + 1)) (putF ((formsL.take i).foldl putF (.map [])) formsL[i]) (ht.put (by trivial) _) (fun g hg => by rw [← hp]; exact h2 g hg)
  have e0 : DF19 = (formsL.drop (i + 1)).foldl putF (putF ((formsL.take i).foldl putF (.map [])) formsL[i]) := by
    unfold DF19
    conv => lhs; rw [hd]
    rw [List.foldl_append, List.foldl_cons]
  rw [e0, e1, e2, ← hp]
  exact ⟨atKey_put_same ht.isMap (key_lit _) _ _, has_put_same ht.isMap (key_lit _) _⟩
theorem no_form {p : ByteArray} (zd : DataW Unit) (h : ∀ f ∈ formsL, f.1 ≠ p) : has DF19 (kSt p) = false := by
  rw [DF19, (at_fold p zd formsL (.map []) tidy_empty h).2]
  rfl
theorem formW_find (p : ByteArray) : (∃ f ∈ formsL, f.1 = p ∧ formW p = some f.2) ∨ ((∀ f ∈ formsL, f.1 ≠ p) ∧ formW p = none) := by
  unfold formW
  cases h : formsL.find? (fun f => decide (f.1 = p)) with
  | none =>
    refine .inr ⟨fun f hf e => ?_, rfl⟩
    have := List.find?_eq_none.1 h f hf
    exact this (decide_eq_true e)
  | some f =>
    have h2 := List.find?_some h
    exact .inl ⟨f, List.mem_of_find?_eq_some h, of_decide_eq_true h2, rfl⟩
def OwnsF (w : World) (b : Nat) : Prop := w.ownsMap Tryd.prog 9 formR b 19 DF19
theorem OwnsF.kept {w w' : World} {b : Nat} (h : OwnsF w b) (e : w'.heap[b]? = w.heap[b]?) : OwnsF w' b := by
  obtain ⟨es, clock, hb, r⟩ := h
  exact ⟨es, clock, e.trans hb, r⟩
theorem OwnsF.below {w w' : World} {b : Nat} (h : OwnsF w b) (k : Below w.heap.size w w') : OwnsF w' b := h.kept (k.block _ (World.ownsMap.lt h))
/-- the look-up, with its word. -/
theorem look_form (w : World) (b : Nat) (p : ByteArray) (hp : p.size ≤ maxLen) (hm : OwnsF w b) :
    (Instr.lookup TF (.map (some b)) (.string p) true).run Tryd.prog w = .ok (match formW p with | some f => .tuple #[.agg #[.int .i64 f.1, .string (plB f.2)], .bool true] | none => .tuple #[.agg #[.int .i64 0, .string ⟨#[]⟩], .bool false]) w := by
  have hown : w.ownsMap Tryd.prog 9 formR b 19 DF19 := hm
  obtain ⟨v, ps, hrun, hv⟩ := hown.look_ok keyedSt Tryd.underlying64 (zeroForm w) (zd := dF 0 ⟨#[]⟩) (formR_mk _ _) (key_st hp)
  obtain ⟨k, s, rfl, hs⟩ := formR_inv hv
  have hs' : DF19.atKey (kSt p) (dF 0 ⟨#[]⟩) = .agg [.lit (.int .i64 k), .lit (.string s.data.toList)] := congrArg Prod.fst hs
  rw [hrun]
  rcases formW_find p with ⟨f, hf, hfp, e⟩ | ⟨hn, e⟩
  · obtain ⟨e1, e2⟩ := at_form (dF 0 ⟨#[]⟩) hf hfp
    rw [e1] at hs'
    rw [e2, e]
    obtain ⟨rfl, h2⟩ := dF_inv hs'
    have : s = plB f.2.2 := (WideShapes.bytes_inj h2).symm
    rw [this]
  · have e1 := no_form (dF 0 ⟨#[]⟩) hn
    have := atKey_of_not_has e1 (dF 0 ⟨#[]⟩)
    rw [this] at hs'
    rw [e1, e]
    obtain ⟨rfl, h2⟩ := dF_inv hs'
    have : s = ⟨#[]⟩ := (WideShapes.bytes_inj h2).symm
    rw [this]
    rfl
/-- .. and without. -/
theorem look_form1 (w : World) (b : Nat) (p : ByteArray) (hp : p.size ≤ maxLen) (hm : OwnsF w b) {f : Nat × List UInt8} (hf : formW p = some f) :
    (Instr.lookup TF (.map (some b)) (.string p) false).run Tryd.prog w = .ok (.agg #[.int .i64 f.1, .string (plB f.2)]) w := by
  have hown : w.ownsMap Tryd.prog 9 formR b 19 DF19 := hm
  obtain ⟨v, ps, hrun, hv⟩ := hown.lookup keyedSt Tryd.underlying64 (zeroForm w) (zd := dF 0 ⟨#[]⟩) (formR_mk _ _) (key_st hp)
  obtain ⟨k, s, rfl, hs⟩ := formR_inv hv
  have hs' : DF19.atKey (kSt p) (dF 0 ⟨#[]⟩) = .agg [.lit (.int .i64 k), .lit (.string s.data.toList)] := congrArg Prod.fst hs
  rw [hrun]
  rcases formW_find p with ⟨g, hg, hgp, e⟩ | ⟨hn, e⟩
  · obtain ⟨e1, e2⟩ := at_form (dF 0 ⟨#[]⟩) hg hgp
    rw [e1] at hs'
    rw [e] at hf
    obtain rfl := Option.some.inj hf
    obtain ⟨rfl, h2⟩ := dF_inv hs'
    have : s = plB g.2.2 := (WideShapes.bytes_inj h2).symm
    rw [this]
  · rw [e] at hf; cases hf

set_option maxRecDepth 100000 in
set_option maxHeartbeats 4000000 in
theorem forms_any (w : World) : Calls Tryd.prog 23 #[] w fun e w' => e = .returned (.map (some w.heap.size)) ∧ OwnsF w' w.heap.size ∧ Below w.heap.size w w' := by
  have hmm := @run_makeMap Tryd.prog
  have H0 := Lib.hid (And.intro (World.ownsMap_made w Tryd.prog 9 formR) ((Below.refl w.heap.size w).alloc (Nat.le_refl _) (.map #[] 0)))
  go_enter Tryd.func23, Tryd.ntmps23
  go_wp2_with (first
    | (refine wpList_insert_own _ rfl _ _ _ TF rfl 9 69 keyedSt Tryd.underlying64 formR w.heap.size 0 _ rfl H0.out.1 (by unfold maxLen; decide) _ _ (kSt ⟨#[110, 111, 116, 104, 105, 110, 103]⟩) rfl rfl (key_st (by unfold maxLen; decide)) (dF 0 ⟨#[]⟩) [] (formR_mk _ _) ?_)
    | fail)
  intro w1 hown hgrow
  have H1 := Lib.hid (And.intro hown (H0.out.2.grown hgrow (H0.out.2.size) (fun k hk => by injection hk with hk; omega)))
  clear hown hgrow H0
  go_wp2_with (first
    | (refine wpList_insert_own _ rfl _ _ _ TF rfl 9 69 keyedSt Tryd.underlying64 formR w.heap.size 1 _ rfl H1.out.1 (by unfold maxLen; decide) _ _ (kSt ⟨#[111, 102, 102, 101, 114]⟩) rfl rfl (key_st (by unfold maxLen; decide)) (dF 1 ⟨#[78, 66, 84]⟩) [] (formR_mk _ _) ?_)
    | fail)
  intro w2 hown hgrow
  have H2 := Lib.hid (And.intro hown (H1.out.2.grown hgrow (H1.out.2.size) (fun k hk => by injection hk with hk; omega)))
  clear hown hgrow H1
  go_wp2_with (first
    | (refine wpList_insert_own _ rfl _ _ _ TF rfl 9 69 keyedSt Tryd.underlying64 formR w.heap.size 2 _ rfl H2.out.1 (by unfold maxLen; decide) _ _ (kSt ⟨#[112, 114, 101, 115, 115]⟩) rfl rfl (key_st (by unfold maxLen; decide)) (dF 2 ⟨#[66]⟩) [] (formR_mk _ _) ?_)
    | fail)
  intro w3 hown hgrow
  have H3 := Lib.hid (And.intro hown (H2.out.2.grown hgrow (H2.out.2.size) (fun k hk => by injection hk with hk; omega)))
  clear hown hgrow H2
  go_wp2_with (first
    | (refine wpList_insert_own _ rfl _ _ _ TF rfl 9 69 keyedSt Tryd.underlying64 formR w.heap.size 3 _ rfl H3.out.1 (by unfold maxLen; decide) _ _ (kSt ⟨#[114, 101, 102, 114, 101, 115, 104]⟩) rfl rfl (key_st (by unfold maxLen; decide)) (dF 3 ⟨#[]⟩) [] (formR_mk _ _) ?_)
    | fail)
  intro w4 hown hgrow
  have H4 := Lib.hid (And.intro hown (H3.out.2.grown hgrow (H3.out.2.size) (fun k hk => by injection hk with hk; omega)))
  clear hown hgrow H3
  go_wp2_with (first
    | (refine wpList_insert_own _ rfl _ _ _ TF rfl 9 69 keyedSt Tryd.underlying64 formR w.heap.size 4 _ rfl H4.out.1 (by unfold maxLen; decide) _ _ (kSt ⟨#[114, 111, 116, 97, 116, 101]⟩) rfl rfl (key_st (by unfold maxLen; decide)) (dF 4 ⟨#[84]⟩) [] (formR_mk _ _) ?_)
    | fail)
  intro w5 hown hgrow
  have H5 := Lib.hid (And.intro hown (H4.out.2.grown hgrow (H4.out.2.size) (fun k hk => by injection hk with hk; omega)))
  clear hown hgrow H4
  go_wp2_with (first
    | (refine wpList_insert_own _ rfl _ _ _ TF rfl 9 69 keyedSt Tryd.underlying64 formR w.heap.size 5 _ rfl H5.out.1 (by unfold maxLen; decide) _ _ (kSt ⟨#[116, 105, 99, 107]⟩) rfl rfl (key_st (by unfold maxLen; decide)) (dF 5 ⟨#[78]⟩) [] (formR_mk _ _) ?_)
    | fail)
  intro w6 hown hgrow
  have H6 := Lib.hid (And.intro hown (H5.out.2.grown hgrow (H5.out.2.size) (fun k hk => by injection hk with hk; omega)))
  clear hown hgrow H5
  go_wp2_with (first
    | (refine wpList_insert_own _ rfl _ _ _ TF rfl 9 69 keyedSt Tryd.underlying64 formR w.heap.size 6 _ rfl H6.out.1 (by unfold maxLen; decide) _ _ (kSt ⟨#[115, 121, 110, 99]⟩) rfl rfl (key_st (by unfold maxLen; decide)) (dF 6 ⟨#[65]⟩) [] (formR_mk _ _) ?_)
    | fail)
  intro w7 hown hgrow
  have H7 := Lib.hid (And.intro hown (H6.out.2.grown hgrow (H6.out.2.size) (fun k hk => by injection hk with hk; omega)))
  clear hown hgrow H6
  go_wp2_with (first
    | (refine wpList_insert_own _ rfl _ _ _ TF rfl 9 69 keyedSt Tryd.underlying64 formR w.heap.size 7 _ rfl H7.out.1 (by unfold maxLen; decide) _ _ (kSt ⟨#[115, 112, 111, 105, 108]⟩) rfl rfl (key_st (by unfold maxLen; decide)) (dF 7 ⟨#[65, 84, 78, 66]⟩) [] (formR_mk _ _) ?_)
    | fail)
  intro w8 hown hgrow
  have H8 := Lib.hid (And.intro hown (H7.out.2.grown hgrow (H7.out.2.size) (fun k hk => by injection hk with hk; omega)))
  clear hown hgrow H7
  go_wp2_with (first
    | (refine wpList_insert_own _ rfl _ _ _ TF rfl 9 69 keyedSt Tryd.underlying64 formR w.heap.size 8 _ rfl H8.out.1 (by unfold maxLen; decide) _ _ (kSt ⟨#[100, 114, 111, 112]⟩) rfl rfl (key_st (by unfold maxLen; decide)) (dF 8 ⟨#[65, 84]⟩) [] (formR_mk _ _) ?_)
    | fail)
  intro w9 hown hgrow
  have H9 := Lib.hid (And.intro hown (H8.out.2.grown hgrow (H8.out.2.size) (fun k hk => by injection hk with hk; omega)))
  clear hown hgrow H8
  go_wp2_with (first
    | (refine wpList_insert_own _ rfl _ _ _ TF rfl 9 69 keyedSt Tryd.underlying64 formR w.heap.size 9 _ rfl H9.out.1 (by unfold maxLen; decide) _ _ (kSt ⟨#[112, 114, 111, 118, 105, 115, 105, 111, 110]⟩) rfl rfl (key_st (by unfold maxLen; decide)) (dF 9 ⟨#[65, 78, 84]⟩) [] (formR_mk _ _) ?_)
    | fail)
  intro w10 hown hgrow
  have H10 := Lib.hid (And.intro hown (H9.out.2.grown hgrow (H9.out.2.size) (fun k hk => by injection hk with hk; omega)))
  clear hown hgrow H9
  go_wp2_with (first
    | (refine wpList_insert_own _ rfl _ _ _ TF rfl 9 69 keyedSt Tryd.underlying64 formR w.heap.size 10 _ rfl H10.out.1 (by unfold maxLen; decide) _ _ (kSt ⟨#[99, 104, 101, 99, 107]⟩) rfl rfl (key_st (by unfold maxLen; decide)) (dF 10 ⟨#[65, 66]⟩) [] (formR_mk _ _) ?_)
    | fail)
  intro w11 hown hgrow
  have H11 := Lib.hid (And.intro hown (H10.out.2.grown hgrow (H10.out.2.size) (fun k hk => by injection hk with hk; omega)))
  clear hown hgrow H10
  go_wp2_with (first
    | (refine wpList_insert_own _ rfl _ _ _ TF rfl 9 69 keyedSt Tryd.underlying64 formR w.heap.size 11 _ rfl H11.out.1 (by unfold maxLen; decide) _ _ (kSt ⟨#[108, 111, 97, 100]⟩) rfl rfl (key_st (by unfold maxLen; decide)) (dF 11 ⟨#[65, 78, 66]⟩) [] (formR_mk _ _) ?_)
    | fail)
  intro w12 hown hgrow
  have H12 := Lib.hid (And.intro hown (H11.out.2.grown hgrow (H11.out.2.size) (fun k hk => by injection hk with hk; omega)))
  clear hown hgrow H11
  go_wp2_with (first
    | (refine wpList_insert_own _ rfl _ _ _ TF rfl 9 69 keyedSt Tryd.underlying64 formR w.heap.size 12 _ rfl H12.out.1 (by unfold maxLen; decide) _ _ (kSt ⟨#[105, 110, 115, 116, 97, 108, 108]⟩) rfl rfl (key_st (by unfold maxLen; decide)) (dF 12 ⟨#[65]⟩) [] (formR_mk _ _) ?_)
    | fail)
  intro w13 hown hgrow
  have H13 := Lib.hid (And.intro hown (H12.out.2.grown hgrow (H12.out.2.size) (fun k hk => by injection hk with hk; omega)))
  clear hown hgrow H12
  go_wp2_with (first
    | (refine wpList_insert_own _ rfl _ _ _ TF rfl 9 69 keyedSt Tryd.underlying64 formR w.heap.size 13 _ rfl H13.out.1 (by unfold maxLen; decide) _ _ (kSt ⟨#[98, 111, 111, 116]⟩) rfl rfl (key_st (by unfold maxLen; decide)) (dF 13 ⟨#[65]⟩) [] (formR_mk _ _) ?_)
    | fail)
  intro w14 hown hgrow
  have H14 := Lib.hid (And.intro hown (H13.out.2.grown hgrow (H13.out.2.size) (fun k hk => by injection hk with hk; omega)))
  clear hown hgrow H13
  go_wp2_with (first
    | (refine wpList_insert_own _ rfl _ _ _ TF rfl 9 69 keyedSt Tryd.underlying64 formR w.heap.size 14 _ rfl H14.out.1 (by unfold maxLen; decide) _ _ (kSt ⟨#[99, 111, 110, 102, 105, 114, 109]⟩) rfl rfl (key_st (by unfold maxLen; decide)) (dF 14 ⟨#[65]⟩) [] (formR_mk _ _) ?_)
    | fail)
  intro w15 hown hgrow
  have H15 := Lib.hid (And.intro hown (H14.out.2.grown hgrow (H14.out.2.size) (fun k hk => by injection hk with hk; omega)))
  clear hown hgrow H14
  go_wp2_with (first
    | (refine wpList_insert_own _ rfl _ _ _ TF rfl 9 69 keyedSt Tryd.underlying64 formR w.heap.size 15 _ rfl H15.out.1 (by unfold maxLen; decide) _ _ (kSt ⟨#[102, 97, 108, 108]⟩) rfl rfl (key_st (by unfold maxLen; decide)) (dF 15 ⟨#[65, 78]⟩) [] (formR_mk _ _) ?_)
    | fail)
  intro w16 hown hgrow
  have H16 := Lib.hid (And.intro hown (H15.out.2.grown hgrow (H15.out.2.size) (fun k hk => by injection hk with hk; omega)))
  clear hown hgrow H15
  go_wp2_with (first
    | (refine wpList_insert_own _ rfl _ _ _ TF rfl 9 69 keyedSt Tryd.underlying64 formR w.heap.size 16 _ rfl H16.out.1 (by unfold maxLen; decide) _ _ (kSt ⟨#[99, 114, 97, 115, 104]⟩) rfl rfl (key_st (by unfold maxLen; decide)) (dF 16 ⟨#[65, 75]⟩) [] (formR_mk _ _) ?_)
    | fail)
  intro w17 hown hgrow
  have H17 := Lib.hid (And.intro hown (H16.out.2.grown hgrow (H16.out.2.size) (fun k hk => by injection hk with hk; omega)))
  clear hown hgrow H16
  go_wp2_with (first
    | (refine wpList_insert_own _ rfl _ _ _ TF rfl 9 69 keyedSt Tryd.underlying64 formR w.heap.size 17 _ rfl H17.out.1 (by unfold maxLen; decide) _ _ (kSt ⟨#[104, 97, 114, 109]⟩) rfl rfl (key_st (by unfold maxLen; decide)) (dF 17 ⟨#[65, 84]⟩) [] (formR_mk _ _) ?_)
    | fail)
  intro w18 hown hgrow
  have H18 := Lib.hid (And.intro hown (H17.out.2.grown hgrow (H17.out.2.size) (fun k hk => by injection hk with hk; omega)))
  clear hown hgrow H17
  go_wp2_with (first
    | (refine wpList_insert_own _ rfl _ _ _ TF rfl 9 69 keyedSt Tryd.underlying64 formR w.heap.size 18 _ rfl H18.out.1 (by unfold maxLen; decide) _ _ (kSt ⟨#[97, 100, 100]⟩) rfl rfl (key_st (by unfold maxLen; decide)) (dF 18 ⟨#[84]⟩) [] (formR_mk _ _) ?_)
    | fail)
  intro w19 hown hgrow
  have H19 := Lib.hid (And.intro hown (H18.out.2.grown hgrow (H18.out.2.size) (fun k hk => by injection hk with hk; omega)))
  clear hown hgrow H18
  go_wp2_with fail
  go_ret
  exact ⟨rfl, H19.out.1, H19.out.2⟩
end Go.Proofs.YtffolbdimkhmmaaDoor
