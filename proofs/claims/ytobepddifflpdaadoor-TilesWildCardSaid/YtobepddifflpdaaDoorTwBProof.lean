/-
  Whatever texts a source hands out, and whatever numbers are asked about, 'ostlerlaw10.TilesWild' returns true: every call ends, and without a source it is refused. No condition but that the listed package-level tables hold what the program's text lays in them, which the card ties.
-/
import Derived.Test.YtobepddifflpdaaDoorCards
import Derived.Test.YtobepddifflpdaaDoorTie
import Derived.Test.YtobepddifflpdaaDoorTwB
import Derived.Test.YtobepddifflpdaaDoorTlZ
import Derived.WalkKit
import Derived.ProofKit
import Derived.OpenShut
import Derived.SliceStrings
import Derived.Carry
set_option linter.unusedVariables false
namespace Go.Proofs.YtobepddifflpdaaDoor.tilesWild
open Go Go.ChangeShapes Go.WideShapes Go.ChangeAt Go.RowKit

theorem own : ownKnob Tryd.prog.godebug = none := by kernel_rfl

theorem tabs {W : World} (h : laidMetH Tryd.prog Rows.tilesWildRow.laid W) : Tabs W := by
  obtain ⟨ps, hv, _⟩ : laidMet Tryd.prog Rows.tilesWildRow.laid W := h
  exact tabs_of_vars (x := ("math/bits.deBruijn32tab", Rows.laid_math_bits_deBruijn32tab)) (y := ("", .nil)) (z := ("", .nil)) hv

set_option maxRecDepth 100000 in
theorem spot_none {w : World} {a : Addr} {v : Value} (h : w.cell? (a.add 0) = some v) : a.spot = none := by
  cases hs : a.spot with
  | none => rfl
  | some x =>
    exfalso
    unfold World.cell? Addr.add at h
    simp [hs] at h
    split at h <;> cases h

set_option maxRecDepth 100000 in
theorem contract (H : Type) (enc : TypeId × Value → H) (W : World) (base : Nat) (args : Array Value) (ds gs : List (DataW H)) (before : List MemPlace)
    (hval : ∀ (j : Nat) t v, Tryd.f7.params[j]? = some t → args[j]? = some v → Value.okWide Tryd.prog W .any base t v)
    (hW : DataW.Whole enc Tryd.prog Tryd.f7.params.toList Rows.tilesWildSpec.vars false W args.toList ds gs before) (hL : laidMetH Tryd.prog Rows.tilesWildRow.laid W) :
    Calls Tryd.prog 7 args W fun e W' => ∃ v, e = .returned v ∧ Rows.tilesWildSpec.post enc Tryd.prog Tryd.f7 false true false false W args v W' := by
  have hW' := hW
  obtain ⟨p, q, hA0, hV, rfl, hfz, hnd⟩ := hW
  have hA : DataW.TrodAll enc Tryd.prog W 0 (fun _ => true) true Tryd.f7.params.toList args.toList ds p := hA0
  rw [Tryd.params7] at hA hval
  obtain ⟨v0, vs0, d0, ds0, p0, q0, hargs, rfl, rfl, h0, r0⟩ := trodAll_cons hA
  obtain ⟨v1, vs1, d1, ds1, p1, q1, rfl, rfl, rfl, h1, r1⟩ := trodAll_cons r0
  obtain ⟨v2, vs2, d2, ds2, p2, q2, rfl, rfl, rfl, h2, r2⟩ := trodAll_cons r1
  obtain ⟨rfl, rfl, rfl⟩ := trodAll_nil r2
  obtain rfl : args = #[v0, v1, v2] := by cases args; simp_all
  obtain ⟨rfl, rfl⟩ := trodVars_none hV
  obtain ⟨a1, rfl, rfl, rfl, w1⟩ := open_int Tryd.underlying3 (hval 1 3 v1 rfl rfl) h1
  obtain ⟨a2, rfl, rfl, rfl, w2⟩ := open_int Tryd.underlying3 (hval 2 3 v2 rfl rfl) h2
  obtain ⟨ao, len, cap, rfl⟩ := okWide_slice Tryd.underlying29 (hval 0 29 v0 rfl rfl)
  have h0k := h0
  obtain ⟨fuel, hf⟩ := h0
  clear hA0
  simp only [List.append_nil] at hW'
  have hlt : ∀ x ∈ p0, x.block < W.heap.size := fun x hx => by simpa using hW'.lt x (by simpa using hx)
  have fin : ∀ W', Below W.heap.size W W' → ∃ v, Ending.returned (.bool true) = .returned v ∧ Rows.tilesWildSpec.post enc Tryd.prog Tryd.f7 false true false false W #[.slice ao len cap, .int .i64 a1, .int .i64 a2] v W' := by
    intro W' hg
    exact ⟨_, rfl, _, _, _, _, _, _, hW', trodAll_cons_mk (shut_bool Tryd.underlying4 _) trodAll_mk0,
      trodAll_cons_mk (Below.trod laidOutP (by kernel_rfl) (of_decide_eq_true (by kernel_rfl)) h0k hg hlt) (trodAll_cons_mk (shut_int Tryd.underlying3 w1) (trodAll_cons_mk (shut_int Tryd.underlying3 w2) trodAll_mk0)), rfl, hg.frame _, fun h => by cases h⟩
  rcases Go.ChangeShapes.open_strings Tryd.underlying29 Tryd.underlying9 (by kernel_rfl) hf with ⟨hcs, -⟩ | ⟨a, len', cap', ss, hcs, -, hl, hm, hz, -, hcell, hsz⟩
  · simp [Value.cells] at hcs
    obtain ⟨rfl, rfl, rfl⟩ := hcs
    exact (wilds_any none 0 0 (fun _ => ⟨#[]⟩) a1 a2 W (tabs hL) (Nat.le_refl _) (by omega) (fun j hj => absurd hj (by omega)) (fun h => absurd h (by omega))).mono fun e W' ⟨he, hg⟩ => by
      subst he
      exact fin W' hg
  · simp [Value.cells] at hcs
    obtain ⟨rfl, rfl, rfl⟩ := hcs
    have hlen : len ≤ ss.length := by rw [hz]; split <;> omega
    refine (wilds_any (some a) len cap (fun i => ss.getD i ByteArray.empty) a1 a2 W (tabs hL) hl (by unfold maxLen at hm; omega) (fun j hj => ?_) (fun h0 => ?_)).mono fun e W' ⟨he, hg⟩ => by
      subst he
      exact fin W' hg
    · have hj' : j < ss.length := by omega
      have := hsz ss[j] (List.getElem_mem hj')
      show (ss.getD j ByteArray.empty).size ≤ _
      rw [List.getD_eq_getElem?_getD, List.getElem?_eq_getElem hj']
      unfold maxLen at this
      exact this
    · have hsp : a.spot = none := by
        have := hcell 0 (by omega)
        exact spot_none this
      obtain ⟨b, off, sp⟩ := a
      simp only at hsp
      subst hsp
      refine ⟨b, off, rfl, fun j hj => ?_⟩
      have := hcell j (by omega)
      by_cases hj0 : j = 0
      · subst hj0; simpa [Addr.add] using this
      · simpa [Addr.add, hj0] using this

noncomputable def wit : Array Value := #[.slice none 0 0, .int .i64 0, .int .i64 0]
noncomputable def wW (os : Os) : World := laidWorld (World.holding Tryd.prog os ⟨#[], #[], []⟩)
theorem laid_met (os : Os) : laidMet Tryd.prog Rows.tilesWildRow.laid ((wW os).forCall (fun _ _ => 0) ⟨#[], wit, []⟩).memory :=
  laidMet_of_run' 8 (by kernel_rfl) (by kernel_rfl)
theorem reads0 (os : Os) {H : Type} (enc : TypeId × Value → H) : ∃ places, DataW.whole enc Tryd.prog ((wW os).forCall (fun _ _ => 0) ⟨#[], wit, []⟩).memory Tryd.f7.params.toList Rows.tilesWildSpec.vars false wit.toList 8 =
    some ([.nil, .lit (.int .i64 0), .lit (.int .i64 0)], [], places) :=
  ⟨[], by kernel_rfl⟩

set_option maxRecDepth 100000 in
theorem lifted (os : Os) (started : os.Started) (H : Type) (enc : TypeId × Value → H) (F : Stop.Interp) :
    ReturnsInHanded {} Tryd.checked os 7 .any ((OpenSpec.ofChange Rows.tilesWildSpec).preRow enc Tryd.prog Tryd.f7 Rows.tilesWildRow.domain false Rows.tilesWildRow.laid) (((OpenSpec.ofChange Rows.tilesWildSpec).at F).post enc Tryd.prog Tryd.f7 false true false false) := by
  obtain ⟨places, hx⟩ := reads0 os enc
  refine returnsInHanded_of_row (C := Tryd.checked) (s := OpenSpec.ofChange Rows.tilesWildSpec) own started (by kernel_rfl) Tryd.func7
    (witness_row_at (enc := enc) (C := Tryd.checked) false (wW os) wit rfl (by kernel_rfl) (by kernel_rfl) (by kernel_rfl)
      (OpenSpec.preRow_of_cond 8 hx (by kernel_rfl) (fun k hk => by cases hk) (by kernel_rfl) (laid_met os))) ?_
  intro W base args ds gs before hval hW _ _ _ hL _ _
  exact contract H enc W base args ds gs before hval hW hL

theorem said : Rows.TilesWildSaid :=
  OpenClaim.holds_of_cond 7 Tryd.f7 rfl rfl rfl rfl rfl rfl rfl ⟨rfl, rfl, rfl, rfl, rfl⟩ rfl rfl rfl rfl rfl (by kernel_rfl) Tryd.func7 (by kernel_rfl)
    (of_decide_eq_true (by kernel_rfl)) (by unfold Func.isWrapper; first | (rw [if_pos (by decide +kernel)]; kernel_rfl) | (rw [if_neg (by decide +kernel)]; exact ⟨rfl, rfl⟩))
    (fun os started H enc _ F => by rw [OpenClaim.pre_eq_preRow]; exact lifted os started H enc F)

theorem plain (f : FuncId) (fn : Func) (hf : Tryd.pinned.checked.prog.funcNamed "ostler/ostlerlaw10.TilesWild" = some f) (hfn : Tryd.pinned.checked.prog.funcs[f]? = some fn) :
    true = Tryd.pinned.checked.prog.looks [] ∧ ∀ (j : Nat) t, fn.params[j]? = some t → Tryd.pinned.checked.prog.wantsStandIn t = false := by
  obtain rfl : f = 7 := Option.some.inj ((show Tryd.prog.funcNamed "ostler/ostlerlaw10.TilesWild" = some 7 by kernel_rfl).symm.trans hf) |>.symm
  obtain rfl : fn = Tryd.f7 := (Option.some.inj (Tryd.func7.symm.trans hfn)).symm
  refine ⟨by kernel_rfl, fun j t ht => ?_⟩
  rw [Tryd.params7] at ht
  have := Array.mem_of_getElem? ht
  simp at this
  rcases this with rfl | rfl
  · exact (show Tryd.prog.wantsStandIn 29 = false by kernel_rfl)
  · exact (show Tryd.prog.wantsStandIn 3 = false by kernel_rfl)

/-- ████ THE CARD ████ -/
theorem card : Rows.TilesWildCardSaid :=
  Claim7.holds_tied_plain_at .later [] _ _ _ _ said (fun _ h => by cases h) (by kernel_rfl) (fun _ h => by cases h) tilesWild_row_tie rfl ⟨rfl, rfl⟩ (by kernel_rfl) rfl plain (by kernel_rfl)
#print axioms card
end Go.Proofs.YtobepddifflpdaaDoor.tilesWild
