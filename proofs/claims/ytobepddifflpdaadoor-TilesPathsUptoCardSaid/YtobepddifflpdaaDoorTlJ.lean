import Derived.Test.YtobepddifflpdaaDoorTlI
import Derived.Test.YtobepddifflpdaaDoorQt
import Derived.Maps.OwnSet
import Derived.DeepKeys5
set_option linter.unusedVariables false
namespace Go.Proofs.YtobepddifflpdaaDoor
open Go Go.RowKit Go.Lib Go.Sort Go.Maps Go.WideMaps

/-! the reader's map: keyed by a Tile -/
theorem laidOutP : laidOutB Tryd.prog = true := by kernel_rfl
theorem rowT : 23 < Tryd.prog.types.size := of_decide_eq_true (by kernel_rfl)
theorem wideT : (match Tryd.prog.underlying 23 with | some (.array _ _) | some (.struct _) => true | _ => false) = true := by kernel_rfl
set_option maxRecDepth 100000 in
theorem keyTT : Tryd.prog.keyTypeAt 2 23 = true := by kernel_rfl
set_option maxRecDepth 100000 in
theorem keyTT2 : Tryd.prog.keyType 23 = true := by kernel_rfl
set_option maxRecDepth 100000 in
theorem keyedT : Keyed Tryd.prog 23 := Keyed.of_law (deep_law_laid laidOutP (m := 2) (by omega) rowT keyTT wideT)
def tl (l i x : Int) : Value := .agg #[.int .i64 l, .int .i64 i, .int .i64 x]
def kT (l i x : Int) : Lit := .string (keyBytes [.int .i64 l, .int .i64 i, .int .i64 x])
theorem cellsT : Tryd.prog.cellsOf 23 = 3 := by kernel_rfl
theorem cellsI : Tryd.prog.cellsOf 3 = 1 := by kernel_rfl
theorem formedT (l i x : Int) : (tl l i x).formed Tryd.prog 23 = true := by simp [tl, Value.formed, Tryd.underlying23, cellsT]
theorem kT_of (l i x : Int) (hl : (Lit.int .i64 l).wf = true) (hi : (Lit.int .i64 i).wf = true) (hx : (Lit.int .i64 x).wf = true) : keyOf Tryd.prog 23 (tl l i x) = some (kT l i x) := by
  have hu : Tryd.prog.underlying 3 = some (.int .i64) := Tryd.underlying3
  obtain ⟨d, hd⟩ : ∃ d, Tryd.prog.types.size = d + 1 := ⟨Tryd.prog.types.size - 1, by have := rowT; omega⟩
  have h1 : ∀ n : Int, (Lit.int .i64 n).wf = true → Tryd.prog.keyLits (d + 1) 3 [.int .i64 n] = some [.int .i64 n] := by
    intro n hn
    unfold Program.keyLits
    rw [hu]
    simp [hn]
  have h2 : Tryd.prog.keyLits (d + 1 + 1) 23 [.int .i64 l, .int .i64 i, .int .i64 x] = some [.int .i64 l, .int .i64 i, .int .i64 x] := by
    unfold Program.keyLits
    rw [Tryd.underlying23]
    simp [cellsT, cellsI, h1 _ hl, h1 _ hi, h1 _ hx]
  unfold keyOf
  rw [Tryd.underlying23]
  simp only [keyTT2, formedT, Bool.and_self, if_true, hd]
  show Option.map _ (Tryd.prog.keyLits (d + 1 + 1) 23 [.int .i64 l, .int .i64 i, .int .i64 x]) = _
  rw [h2]
  rfl

/-- how a 'struct{text}' in the map reads. -/
def txtR (v : Value) : Option (DataW Unit × List MemPlace) :=
  match v with
  | .agg c => match c.toList with
    | [.string s] => some (.lit (.string s.data.toList), [])
    | _ => none
  | _ => none
theorem txtR_inv {v : Value} {z : DataW Unit × List MemPlace} (h : txtR v = some z) : ∃ s : ByteArray, v = .agg #[.string s] ∧ z = (.lit (.string s.data.toList), []) := by
  unfold txtR at h
  split at h
  · rename_i c
    split at h
    · rename_i s hc
      obtain ⟨l⟩ := c
      obtain rfl : l = [.string s] := hc
      exact ⟨_, rfl, (Option.some.inj h).symm⟩
    · cases h
  · cases h
theorem txtR_mk (s : ByteArray) : txtR (.agg #[.string s]) = some (.lit (.string s.data.toList), []) := rfl
def dT (p : ByteArray) : DataW Unit := .lit (.string p.data.toList)
def txtOf : DataW Unit → ByteArray
  | .lit (.string l) => ⟨l.toArray⟩
  | _ => ⟨#[]⟩
theorem txtOf_dT (s : ByteArray) : txtOf (dT s) = s := by
  show (⟨s.data.toList.toArray⟩ : ByteArray) = s
  rw [Array.toArray_toList]
/-- the text of a tile, if it is kept. -/
def kget (D : DataW Unit) (l i x : Nat) : Option ByteArray := if has D (kT l i x) = true then some (txtOf (D.atKey (kT l i x) (dT ⟨#[]⟩))) else none
theorem kget_empty (l i x : Nat) : kget (.map []) l i x = none := rfl
theorem wfN (n : Nat) (h : n ≤ 1099511627776) : (Lit.int .i64 (n : Int)).wf = true := by
  simp [Lit.wf, IntKind.min, IntKind.max, IntKind.signed, IntKind.bits]
  omega
theorem kT_nat (l i x : Nat) (hl : l ≤ 1099511627776) (hi : i ≤ 1099511627776) (hx : x ≤ 1099511627776) : keyOf Tryd.prog 23 (tl l i x) = some (kT l i x) := kT_of _ _ _ (wfN l hl) (wfN i hi) (wfN x hx)
theorem kT_inj {l i x l' i' x' : Nat} (hl : l ≤ 1099511627776) (hi : i ≤ 1099511627776) (hx : x ≤ 1099511627776) (hl' : l' ≤ 1099511627776) (hi' : i' ≤ 1099511627776) (hx' : x' ≤ 1099511627776) (h : kT l i x = kT l' i' x') : l = l' ∧ i = i' ∧ x = x' := by
  have h1 := kT_nat l i x hl hi hx
  have h2 := kT_nat l' i' x' hl' hi' hx'
  rw [h] at h1
  have h3 := keyedT.inj h1 h2
  simp [tl] at h3
  omega
theorem kget_put {D : DataW Unit} (hD : IsMap D) {l i x l' i' x' : Nat} (hl : l ≤ 1099511627776) (hi : i ≤ 1099511627776) (hx : x ≤ 1099511627776) (hl' : l' ≤ 1099511627776) (hi' : i' ≤ 1099511627776) (hx' : x' ≤ 1099511627776) (t s : ByteArray)
    (h : kget (D.put (kT l i x) (dT t)) l' i' x' = some s) : (l' = l ∧ i' = i ∧ x' = x ∧ s = t) ∨ kget D l' i' x' = some s := by
  by_cases e : kT l i x = kT l' i' x'
  · obtain ⟨rfl, rfl, rfl⟩ := kT_inj hl hi hx hl' hi' hx' e
    refine .inl ⟨rfl, rfl, rfl, ?_⟩
    unfold kget at h
    rw [if_pos (has_put_same hD (by trivial) _), atKey_put_same hD (by trivial), txtOf_dT] at h
    exact (Option.some.inj h).symm
  · refine .inr ?_
    unfold kget at h ⊢
    rw [has_put_other (fun h => e h.symm), atKey_put_other (fun h => e h.symm)] at h
    exact h

def OwnsK (w : World) (b n : Nat) (D : DataW Unit) : Prop := w.ownsMap Tryd.prog 23 txtR b n D
theorem OwnsK.kept {w w' : World} {b n : Nat} {D : DataW Unit} (h : OwnsK w b n D) (e : w'.heap[b]? = w.heap[b]?) : OwnsK w' b n D := by
  obtain ⟨es, clock, hb, r⟩ := h
  exact ⟨es, clock, e.trans hb, r⟩
theorem OwnsK.lt {w : World} {b n : Nat} {D : DataW Unit} (h : OwnsK w b n D) : b < w.heap.size := World.ownsMap.lt h
theorem OwnsK.isMap {w : World} {b n : Nat} {D : DataW Unit} (h : OwnsK w b n D) : IsMap D := by
  obtain ⟨es, clock, hb, F, hs, rfl⟩ := h
  exact ⟨_, rfl⟩
set_option maxRecDepth 100000 in
theorem look_kept (w : World) (kb n : Nat) (D : DataW Unit) (l i x : Nat) (hl : l ≤ 1099511627776) (hi : i ≤ 1099511627776) (hx : x ≤ 1099511627776) (hm : OwnsK w kb n D) :
    (Instr.lookup 88 (.map (some kb)) (tl l i x) true).run Tryd.prog w = .ok (match kget D l i x with | some s => .tuple #[.agg #[.string s], .bool true] | none => .tuple #[.agg #[.string ⟨#[]⟩], .bool false]) w := by
  obtain ⟨v, ps, hrun, hv⟩ := World.ownsMap.look_ok hm keyedT Tryd.underlying88 (z := .agg #[.string ⟨#[]⟩]) (by kernel_rfl) (zd := dT ⟨#[]⟩) (txtR_mk _) (kT_nat l i x hl hi hx)
  obtain ⟨s, rfl, hs⟩ := txtR_inv hv
  have hs' : D.atKey (kT l i x) (dT ⟨#[]⟩) = dT s := congrArg Prod.fst hs
  rw [hrun]
  unfold kget
  rw [hs', txtOf_dT]
  cases hh : has D (kT l i x) with
  | true => rfl
  | false =>
    have := atKey_of_not_has hh (dT ⟨#[]⟩)
    rw [hs'] at this
    have h2 := congrArg txtOf this
    rw [txtOf_dT, txtOf_dT] at h2
    subst h2
    rfl
end Go.Proofs.YtobepddifflpdaaDoor
