/-
  A checkpoint and a slice of bytes as arguments; a law's end: the arguments read as they did.
-/
import Derived.Test.YtmejjphliaiamaaGreatDoorRows
import Derived.Test.YtmejjphliaiamaaGreatDoorOtY
import Derived.WalkKit
import Derived.ProofKit
import Derived.OpenShut
import Derived.Lib.SmallJoins
import Derived.Deep.Slices
import Derived.Deep.Fields
import Derived.ChangeSame
import Derived.Carry
set_option linter.unusedVariables false
namespace Go.Proofs.YtmejjphliaiamaaGreatDoor
open Go Go.ChangeShapes Go.WideShapes Go.ChangeAt Go.RowKit Go.Joins Go.Deep

theorem spot_none {a : Addr} {w : World} {v : Value} (h : w.cell? a = some v) : a = ⟨a.block, a.off, none⟩ := by
  obtain ⟨b, o, s⟩ := a
  cases s with
  | none => rfl
  | some s =>
    exfalso
    unfold World.cell? at h
    split at h <;> simp at h
theorem add_lit (b o i : Nat) : (⟨b, o, none⟩ : Addr).add i = ⟨b, o + i, none⟩ := by unfold Addr.add; split <;> simp_all

variable {H : Type} {enc : TypeId × Value → H} {W : World}
theorem laidOut : laidOutB Tryz.prog = true := by kernel_rfl
set_option maxRecDepth 100000 in
theorem below_trodAll {W' : World} (hb : Below W.heap.size W W') : ∀ {ts : List TypeId} {vs : List Value} {ds : List (DataW H)} {ps : List MemPlace}, (∀ t ∈ ts, Tryz.prog.readableRec t = true ∧ t < Tryz.prog.types.size) →
    DataW.TrodAll enc Tryz.prog W 0 (fun _ => true) true ts vs ds ps → (∀ x ∈ ps, x.block < W.heap.size) → DataW.TrodAll enc Tryz.prog W' 0 (fun b => decide (b < W.heap.size)) true ts vs ds ps
  | [], [], [], _, _, h, _ => h
  | t :: ts, v :: vs, d :: ds, _, ht, h, hlt => by
    obtain ⟨p, q, h1, h2, rfl⟩ := h
    exact ⟨p, q, Below.trod laidOut (ht t (by simp)).1 (ht t (by simp)).2 h1 hb (fun x hx => hlt x (by simp [hx])), below_trodAll hb (fun t h => ht t (by simp [h])) h2 (fun x hx => hlt x (by simp [hx])), rfl⟩
  | [], [], _ :: _, _, _, h, _ => h.elim
  | [], _ :: _, _, _, _, h, _ => by cases ‹List (DataW H)› <;> exact h.elim
  | _ :: _, [], _, _, _, h, _ => by cases ‹List (DataW H)› <;> exact h.elim
  | _ :: _, _ :: _, [], _, _, h, _ => h.elim

set_option maxRecDepth 100000 in
/-- a law's end: it returns true; what was handed in reads as it did. -/
theorem post_true {f : Func} {s : ChangeSpec} {args : Array Value} {ds gs : List (DataW H)} {before : List MemPlace} {W' : World} (hW : DataW.Whole enc Tryz.prog f.params.toList s.vars false W args.toList ds gs before) (hv : s.vars = [])
    (hs : s.fn H (ds ++ gs) = { results := [.lit (.bool true)], args := ds }) (hr : f.resultTypes = #[4]) (hrow : ∀ t ∈ f.params.toList, Tryz.prog.readableRec t = true ∧ t < Tryz.prog.types.size) (hb : Below W.heap.size W W') :
    s.post enc Tryz.prog f false true false false W args (.bool true) W' := by
  have hlt : ∀ p ∈ before, p.block < W.heap.size := fun p hp => hW.lt p hp
  have hW2 := hW
  obtain ⟨p, q, hA, hV, rfl, hfz, hnd⟩ := hW
  rw [hv] at hV
  obtain ⟨rfl, rfl⟩ := trodVars_none hV
  refine ⟨ds, [], p ++ [], [], p, [], hW2, ?_, ?_, ?_, hb.frame _, fun h => by cases h⟩
  · rw [hs, hr]
    exact trodAll_cons_mk (shut_bool Tryz.underlying4 _) trodAll_mk0
  · rw [hs]
    exact below_trodAll hb hrow hA (fun x hx => hlt x (by simp [hx]))
  · rw [hs, hv]; rfl
set_option maxRecDepth 100000 in
theorem open_cp {held : Bool} {fuel : Nat} {c0 c1 c2 : Value} {x : DataW H × List MemPlace} (h : DataW.trod enc Tryz.prog W 0 (fun _ => true) held fuel 28 [c0, c1, c2] = some x) :
    ∃ (o : ByteArray) (n : Int) (r : ByteArray), c0 = .string o ∧ c1 = .int .i64 n ∧ c2 = .string r ∧ o.size + r.size ≤ Rows.uptoBulk x.1 := by
  obtain ⟨ys, n, -, hx, -, hlen, hf⟩ := DataW.trod_struct Tryz.underlying28 h
  have h0 := hf 0 _ rfl
  have h1 := hf 1 _ rfl
  have h2 := hf 2 _ rfl
  match ys, hlen, hx, h0, h1, h2 with
  | [ya, yb, yc], _, hx, h0, h1, h2 =>
    have t0 : DataW.trod enc Tryz.prog W 0 (fun _ => true) held n 9 [c0] = some ya := h0
    have t1 : DataW.trod enc Tryz.prog W 0 (fun _ => true) held n 3 [c1] = some yb := h1
    have t2 : DataW.trod enc Tryz.prog W 0 (fun _ => true) held n 9 [c2] = some yc := h2
    obtain ⟨s0, e0, rfl, -⟩ := DataW.trod_string Tryz.underlying9 t0
    obtain ⟨m, e1, rfl, w1⟩ := DataW.trod_int Tryz.underlying3 t1
    obtain ⟨s2, e2, rfl, -⟩ := DataW.trod_string Tryz.underlying9 t2
    simp at e0 e1 e2
    subst e0
    subst e1
    subst e2
    have e3 : s0.data.toList.length = s0.size := Array.length_toList
    have e4 : s2.data.toList.length = s2.size := Array.length_toList
    refine ⟨s0, m, s2, rfl, rfl, rfl, ?_⟩
    rw [hx]
    simp only [List.map_cons, List.map_nil, Rows.uptoBulk, Rows.uptoBulkAll]
    omega
theorem cellsCp : Tryz.prog.cellsOf 28 = 3 := by kernel_rfl
theorem cU8 : Tryz.prog.cellsOf 5 = 1 := by kernel_rfl
set_option maxRecDepth 100000 in
theorem open_bytes {held : Bool} {fuel : Nat} {c : Value} {x : DataW H × List MemPlace} (h : DataW.trod enc Tryz.prog W 0 (fun _ => true) held fuel 47 [c] = some x) :
    ∃ (ad : Option Addr) (n cap : Nat), c = .slice ad n cap ∧ BytM W ad n ∧ n ≤ cap ∧ cap ≤ 9223372036854775807 := by
  rcases open_slice Tryz.underlying47 h with ⟨h1, h2⟩ | ⟨a, len, cap, m, n, D, Pl, hcs, hb, hl, hm, hmm, hx, hi⟩
  · simp at h1
    subst h1
    exact ⟨none, 0, 0, rfl, fun k hk => by omega, Nat.le_refl _, by decide⟩
  · simp at hcs
    subst hcs
    have hcell : ∀ k, k < len → ∃ z : Int, 0 ≤ z ∧ z ≤ 255 ∧ W.cell? (a.add k) = some (.int .u8 z) := by
      intro k hk
      obtain ⟨cs', hc, ht⟩ := hi k (by rw [hmm]; split <;> omega)
      rw [cU8] at hc
      obtain ⟨_, hcl, hat⟩ := World.cells?_some hc
      obtain ⟨v, rfl⟩ : ∃ v, cs' = [v] := by
        match cs', hcl with
        | [v], _ => exact ⟨v, rfl⟩
      have h1 := hat 0 Nat.one_pos
      obtain ⟨z, e0, -, w0⟩ := DataW.trod_int Tryz.underlying5 ht
      simp at e0
      subst e0
      have hbd := bounds_u8 w0
      have hadd : (a.add (k * 1)).add 0 = a.add k := by rw [Nat.mul_one]; unfold Addr.add; split <;> simp_all
      rw [hadd] at h1
      exact ⟨z, hbd.1, hbd.2, h1⟩
    refine ⟨some a, len, cap, rfl, fun k hk => ?_, hl, by unfold maxLen at hm; omega⟩
    obtain ⟨z0, -, -, h0⟩ := hcell 0 (by omega)
    have ha0 : a.add 0 = a := by unfold Addr.add; split <;> simp_all
    rw [ha0] at h0
    have hsp := spot_none h0
    obtain ⟨z, hz0, hz1, h2⟩ := hcell k hk
    refine ⟨a.block, a.off, congrArg some hsp, z.toNat, by omega, ?_⟩
    rw [hsp, add_lit] at h2
    rw [h2, Int.toNat_of_nonneg hz0]
end Go.Proofs.YtmejjphliaiamaaGreatDoor
