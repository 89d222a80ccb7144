/-
  For every document, every kind and every choice of signers (the three together of bulk at most 1048576), 'ostlerlaw14.MetaOpens' returns true: a sealed document is opened just where it is of the kind, and its signatures are enough for each of the sets. No other condition but that the listed package-level variables hold what the program's text lays in them, which the card ties.
-/
import Derived.Test.YtmejjphliaiamaaGreatDoorCards
import Derived.Test.YtmejjphliaiamaaGreatDoorTie
import Derived.Test.YtmejjphliaiamaaGreatDoorMoF
import Derived.Test.YtmejjphliaiamaaGreatDoorVz
import Derived.Test.YtmejjphliaiamaaGreatDoorOpB
import Derived.ShutString
import Derived.Stop.LaidErr
import Derived.Shelf.Vars
set_option linter.unusedVariables false
namespace Go.Proofs.YtmejjphliaiamaaGreatDoor.metaOpens
open Go Go.ChangeShapes Go.WideShapes Go.ChangeAt Go.RowKit Go.Joins
open Go.ChangeMaps (open_string shut_string)

theorem own : ownKnob Tryz.prog.godebug = none := by kernel_rfl
theorem cS : Tryz.prog.cellsOf 9 = 1 := by kernel_rfl
theorem vars {W : World} (h : laidMet Tryz.prog Rows.metaOpensUptoRow.laid W) (hs : W.ShapedOpen Tryz.prog) : VarsP W :=
  varsP_of h

set_option maxRecDepth 100000 in
theorem rowed : ∀ t ∈ Tryz.f5.params.toList, Tryz.prog.readableRec t = true ∧ t < Tryz.prog.types.size := by
  intro t ht
  rw [Tryz.params5] at ht
  simp at ht
  rcases ht with rfl | rfl | rfl
  all_goals exact ⟨by kernel_rfl, of_decide_eq_true (by kernel_rfl)⟩

set_option maxRecDepth 100000 in
theorem contract (H : Type) (enc : TypeId × Value → H) (W : World) (base : Nat) (args : Array Value) (ds gs : List (DataW H)) (before : List MemPlace)
    (hval : ∀ (j : Nat) t v, Tryz.f5.params[j]? = some t → args[j]? = some v → Value.okWide Tryz.prog W .any base t v)
    (hW : DataW.Whole enc Tryz.prog Tryz.f5.params.toList Rows.metaOpensSpec.vars false W args.toList ds gs before) (hL : laidMetH Tryz.prog Rows.metaOpensUptoRow.laid W) (hsh : W.ShapedOpen Tryz.prog) (hk : Rows.uptoSmall H (ds ++ gs) = true) :
    Calls Tryz.prog 5 args W fun e W' => ∃ v, e = .returned v ∧ Rows.metaOpensSpec.post enc Tryz.prog Tryz.f5 false true false false W args v W' := by
  have hW' := hW
  obtain ⟨p, q, hA0, hV, rfl, hfz, hnd⟩ := hW
  have hA : DataW.TrodAll enc Tryz.prog W 0 (fun _ => true) true Tryz.f5.params.toList args.toList ds p := hA0
  rw [Tryz.params5] at hA hval
  obtain ⟨v0, vs0, d0, ds0, p0, q0, hargs, rfl, rfl, h0, r0⟩ := trodAll_cons hA
  obtain ⟨v1, vs1, d1, ds1, p1, q1, rfl, rfl, rfl, h1, r1⟩ := trodAll_cons r0
  obtain ⟨v2, vs2, d2, ds2, p2, q2, rfl, rfl, rfl, h2, r2⟩ := trodAll_cons r1
  obtain ⟨rfl, rfl, rfl⟩ := trodAll_nil r2
  obtain rfl : args = #[v0, v1, v2] := by cases args; simp_all
  obtain ⟨rfl, rfl⟩ := trodVars_none hV
  have hbulk : Rows.uptoBulkAll ([d0, d1, d2] ++ []) ≤ 1048576 := of_decide_eq_true hk
  simp only [List.append_nil, Rows.uptoBulkAll] at hbulk
  obtain ⟨p, dv, rfl, hM, hE⟩ := open_doc (hval 0 30 v0 rfl rfl) h0 (by omega)
  obtain ⟨k, rfl⟩ := okWide_int Tryz.underlying3 (hval 1 3 v1 rfl rfl)
  obtain ⟨fuel, h2⟩ := h2
  obtain ⟨sa, sn, sc, rfl⟩ := okWide_slice Tryz.underlying47 (hval 2 47 v2 rfl rfl)
  obtain ⟨bd, bn, bc, hs9, hB, hbn, hbc⟩ := open_bytes (show DataW.trod enc Tryz.prog W 0 (fun _ => true) true fuel 47 [.slice sa sn sc] = some (d2, p2) from by simpa [Value.cells] using h2)
  cases hs9
  refine (metaopens_any p dv k sa sn sc W hM hE hbn hbc hB (vars hL hsh)).mono fun e W' ⟨he, hg⟩ => ?_
  subst he
  exact ⟨_, rfl, post_true hW' rfl rfl rfl rowed hg⟩

noncomputable def wit : Array Value := #[docV dz, .int .i64 0, .slice none 0 0]
noncomputable def low : Nat := (World.holding Tryz.prog default ⟨#[], #[], []⟩).heap.size
noncomputable def wW (os : Os) : World := laidV low (World.holding Tryz.prog os ⟨#[.cells #[.string synS] 235, .cells #[.string rngS] 235], #[], []⟩)
theorem laid_met (os : Os) : laidMet Tryz.prog Rows.metaOpensUptoRow.laid ((wW os).forCall (fun _ _ => 0) ⟨#[], wit, []⟩).memory :=
  laidMet_of_run' 8 (by kernel_rfl) (by kernel_rfl)
theorem reads0 (os : Os) {H : Type} (enc : TypeId × Value → H) : ∃ places, DataW.whole enc Tryz.prog ((wW os).forCall (fun _ _ => 0) ⟨#[], wit, []⟩).memory Tryz.f5.params.toList Rows.metaOpensSpec.vars false wit.toList 8 =
    some ([.agg [.lit (.int .i64 0), .lit (.int .i64 0), .lit (.int .i64 0), .agg [.agg [.nil, .lit (.int .i64 0)], .agg [.nil, .lit (.int .i64 0)], .agg [.nil, .lit (.int .i64 0)], .agg [.nil, .lit (.int .i64 0)]], .agg [.nil, .lit (.int .i64 0)], .lit (.string []), .lit (.string []), .nil, .agg [.lit (.string []), .lit (.int .i64 0), .lit (.string [])], .lit (.int .i64 0), .lit (.string [])], .lit (.int .i64 0), .nil], [], places) :=
  ⟨[], by kernel_rfl⟩

set_option maxRecDepth 100000 in
theorem lifted (os : Os) (started : os.Started) (H : Type) (enc : TypeId × Value → H) (F : Stop.Interp) :
    ReturnsInHanded {} Tryz.checked os 5 .any ((Rows.OpenSpec.upto Rows.metaOpensSpec).preRow enc Tryz.prog Tryz.f5 Rows.metaOpensUptoRow.domain false Rows.metaOpensUptoRow.laid) (((Rows.OpenSpec.upto Rows.metaOpensSpec).at F).post enc Tryz.prog Tryz.f5 false true false false) := by
  obtain ⟨places, hx⟩ := reads0 os enc
  refine returnsInHanded_of_row (C := Tryz.checked) (s := Rows.OpenSpec.upto Rows.metaOpensSpec) own started (by kernel_rfl) Tryz.func5
    (witness_row_at (enc := enc) (C := Tryz.checked) false (wW os) wit rfl (by kernel_rfl) (by kernel_rfl) (by kernel_rfl)
      (OpenSpec.preRow_of_cond 8 hx (by kernel_rfl) (fun k hk => by cases hk; kernel_rfl) (by kernel_rfl) (laid_met os))) ?_
  intro W base args ds gs before hval hW _ hk _ hL hsh _
  exact contract H enc W base args ds gs before hval hW hL hsh (hk _ rfl)

theorem said : Rows.MetaOpensUptoSaid :=
  OpenClaim.holds_of_cond 5 Tryz.f5 rfl rfl rfl rfl rfl rfl rfl ⟨rfl, rfl, rfl, rfl, rfl⟩ rfl rfl rfl rfl rfl (by kernel_rfl) Tryz.func5 (by kernel_rfl)
    (of_decide_eq_true (by kernel_rfl)) (by unfold Func.isWrapper; first | (rw [if_pos (by decide +kernel)]; kernel_rfl) | (rw [if_neg (by decide +kernel)]; exact ⟨rfl, rfl⟩))
    (fun os started H enc _ F => by rw [OpenClaim.pre_eq_preRow]; exact lifted os started H enc F)

theorem plain (f : FuncId) (fn : Func) (hf : Tryz.pinned.checked.prog.funcNamed "ostler/ostlerlaw14.MetaOpens" = some f) (hfn : Tryz.pinned.checked.prog.funcs[f]? = some fn) :
    true = Tryz.pinned.checked.prog.looks [] ∧ ∀ (j : Nat) t, fn.params[j]? = some t → Tryz.pinned.checked.prog.wantsStandIn t = false := by
  obtain rfl : f = 5 := Option.some.inj ((show Tryz.prog.funcNamed "ostler/ostlerlaw14.MetaOpens" = some 5 by kernel_rfl).symm.trans hf) |>.symm
  obtain rfl : fn = Tryz.f5 := (Option.some.inj (Tryz.func5.symm.trans hfn)).symm
  refine ⟨by kernel_rfl, fun j t ht => ?_⟩
  rw [Tryz.params5] at ht
  have := Array.mem_of_getElem? ht
  simp at this
  rcases this with rfl | rfl | rfl
  · exact (show Tryz.prog.wantsStandIn 30 = false by kernel_rfl)
  · exact (show Tryz.prog.wantsStandIn 3 = false by kernel_rfl)
  · exact (show Tryz.prog.wantsStandIn 47 = false by kernel_rfl)

/-- ████ THE CARD ████ -/
theorem card : Rows.MetaOpensUptoCardSaid :=
  Claim7.holds_tied_plain_at .later [] _ _ _ _ said (fun _ h => by cases h) (by kernel_rfl) (fun _ h => by cases h) metaOpensUpto_row_tie rfl ⟨rfl, rfl⟩ (by kernel_rfl) rfl plain (by kernel_rfl)
#print axioms card
end Go.Proofs.YtmejjphliaiamaaGreatDoor.metaOpens
