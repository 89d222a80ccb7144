import Derived.Test.YtobepddifflpdaaProg
import Derived.WalkKit
import Derived.Maps.OwnSet
import Derived.WalkLawsBesides
import Derived.WalkSpells
import Derived.Lib.Hide
import Derived.Test.YtobepddifflpdaaWd
set_option linter.unusedVariables false
namespace Go.Proofs.Ytobepddifflpdaa
open Go Go.RowKit Go.Maps Go.WideMaps

/-- how a 'file{text}' in a map reads. -/
def fileR (v : Value) : Option (DataW Unit × List MemPlace) :=
  match v with
  | .agg c => match c.toList with
    | [.string s] => some (.lit (.string s.data.toList), [])
    | _ => none
  | _ => none

theorem fileR_inv {v : Value} {z : DataW Unit × List MemPlace} (h : fileR v = some z) : ∃ s : ByteArray, v = .agg #[.string s] ∧ z = (.lit (.string s.data.toList), []) := by
  unfold fileR at h
  split at h
  · rename_i c
    split at h
    · rename_i s hc
      obtain ⟨l⟩ := c
      obtain rfl : l = [.string s] := hc
      exact ⟨_, rfl, (Option.some.inj h).symm⟩
    · cases h
  · cases h

theorem fileR_mk (s : ByteArray) : fileR (.agg #[.string s]) = some (.lit (.string s.data.toList), []) := rfl

def kS (p : ByteArray) : Lit := .string p.data.toList
def dS (p : ByteArray) : DataW Unit := .lit (.string p.data.toList)
def strOf : DataW Unit → ByteArray
  | .lit (.string l) => ⟨l.toArray⟩
  | _ => ⟨#[]⟩
theorem strOf_dS (s : ByteArray) : strOf (dS s) = s := by
  show (⟨s.data.toList.toArray⟩ : ByteArray) = s
  rw [Array.toArray_toList]

/-- the text of a path, if it is there. -/
def mget (D : DataW Unit) (p : ByteArray) : Option ByteArray := if has D (kS p) = true then some (strOf (D.atKey (kS p) (dS ⟨#[]⟩))) else none

theorem kS_inj {p q : ByteArray} (h : kS p = kS q) : p = q := by
  unfold kS at h
  injection h with h
  exact WideShapes.bytes_inj h
theorem mget_put_same {D : DataW Unit} (hD : IsMap D) (p t : ByteArray) : mget (D.put (kS p) (dS t)) p = some t := by
  unfold mget
  rw [if_pos (has_put_same hD (by trivial) _), atKey_put_same hD (by trivial), strOf_dS]
theorem mget_put_other {D : DataW Unit} {p q : ByteArray} (t : ByteArray) (h : q ≠ p) : mget (D.put (kS p) (dS t)) q = mget D q := by
  unfold mget
  rw [has_put_other (fun e => h (kS_inj e)), atKey_put_other (fun e => h (kS_inj e))]
theorem mget_del_same {D : DataW Unit} (p : ByteArray) : mget (D.del (kS p)) p = none := by
  unfold mget
  rw [has_del_same]
  rfl
theorem mget_del_other {D : DataW Unit} {p q : ByteArray} (h : q ≠ p) : mget (D.del (kS p)) q = mget D q := by
  unfold mget
  rw [has_del_other (fun e => h (kS_inj e)), atKey_del_other (fun e => h (kS_inj e))]
theorem mget_empty (p : ByteArray) : mget (.map []) p = none := rfl

theorem keyedS : Keyed Try.prog 9 := string_keyed Try.underlying9
theorem key_mk {p : ByteArray} (hp : p.size ≤ maxLen) : keyOf Try.prog 9 (.string p) = some (kS p) := keyOf_string_mk (P := Try.prog) Try.underlying9 hp

def OwnsM (w : World) (b n : Nat) (D : DataW Unit) : Prop := w.ownsMap Try.prog 9 fileR b n D

/-- what a mirror's one cell holds. -/
def MirV (w : World) (v : Option Nat) (n : Nat) (D : DataW Unit) : Prop :=
  match v with
  | none => D = .map []
  | some b => OwnsM w b n D

theorem zeroFile (w : World) : (zeroValue 64).run Try.prog w = .ok (.agg #[.string ⟨#[]⟩]) w := by kernel_rfl

/-- the look-up, whatever the map. -/
theorem look_file (w : World) (v : Option Nat) (n : Nat) (D : DataW Unit) (p : ByteArray) (hp : p.size ≤ maxLen) (hm : MirV w v n D) :
    (Instr.lookup 24 (.map v) (.string p) true).run Try.prog w = .ok (match mget D p with | some s => .tuple #[.agg #[.string s], .bool true] | none => .tuple #[.agg #[.string ⟨#[]⟩], .bool false]) w := by
  cases v with
  | none =>
    obtain rfl : D = .map [] := hm
    exact look_nil (w := w) true keyedS Try.underlying24 (zeroFile w) (key_mk hp)
  | some b =>
    have hown : w.ownsMap Try.prog 9 fileR b n D := hm
    obtain ⟨v, ps, hrun, hv⟩ := hown.look_ok keyedS Try.underlying24 (zeroFile w) (zd := dS ⟨#[]⟩) (fileR_mk _) (key_mk hp)
    obtain ⟨s, rfl, hs⟩ := fileR_inv hv
    have hs' : D.atKey (kS p) (dS ⟨#[]⟩) = dS s := congrArg Prod.fst hs
    rw [hrun]
    unfold mget
    rw [hs', strOf_dS]
    cases hh : has D (kS p) with
    | true => rfl
    | false =>
      have := atKey_of_not_has hh (dS ⟨#[]⟩)
      rw [hs'] at this
      have h2 := congrArg strOf this
      rw [strOf_dS, strOf_dS] at h2
      subst h2
      rfl

def FileOk (s : ByteArray) (w : World) (e : Ending) (w' : World) : Prop := e = .returned (.tuple #[.string s, .int .i64 0]) ∧ Below w.heap.size w w'
def FileNo (w : World) (e : Ending) (w' : World) : Prop := e = .returned (.tuple #[.string ⟨#[]⟩, .int .i64 5]) ∧ Below w.heap.size w w'

theorem file_nil (p : ByteArray) (w : World) :
    Calls Try.prog 18 #[.pointer none, .string p] w (FileNo w) := by
  go_enter Try.func18, Try.ntmps18
  go_wp2
  go_ret2
  exact ⟨rfl, Below.refl _ _⟩

set_option maxRecDepth 100000 in
theorem file_ok (a : Addr) (v : Option Nat) (n : Nat) (D : DataW Unit) (p s : ByteArray) (w : World) (hp : p.size ≤ maxLen) (hc : w.cell? a = some (.map v)) (hm : MirV w v n D) (hg : mget D p = some s) :
    Calls Try.prog 18 #[.pointer (some a), .string p] w (FileOk s w) := by
  have hrun := look_file w v n D p hp hm
  rw [hg] at hrun
  clear hg hm
  go_enter Try.func18, Try.ntmps18
  go_wp2
  go_ret2
  exact ⟨rfl, (Below.refl _ _).alloc (Nat.le_refl _) _⟩

set_option maxRecDepth 100000 in
theorem file_no (a : Addr) (v : Option Nat) (n : Nat) (D : DataW Unit) (p : ByteArray) (w : World) (hp : p.size ≤ maxLen) (hc : w.cell? a = some (.map v)) (hm : MirV w v n D) (hg : mget D p = none) :
    Calls Try.prog 18 #[.pointer (some a), .string p] w (FileNo w) := by
  have hrun := look_file w v n D p hp hm
  rw [hg] at hrun
  clear hg hm
  go_enter Try.func18, Try.ntmps18
  go_wp2
  go_ret2
  exact ⟨rfl, (Below.refl _ _).alloc (Nat.le_refl _) _⟩

end Go.Proofs.Ytobepddifflpdaa
