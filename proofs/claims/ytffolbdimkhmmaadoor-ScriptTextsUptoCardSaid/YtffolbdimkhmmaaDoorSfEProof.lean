/-
  For every row of steps (of bulk at most 1048576), 'ostlerlaw26.ScriptTexts' returns true: any steps have the text that the document says, or none. No other condition but that the listed package-level variables hold what the program's text lays in them, which the card ties.
-/
import Derived.Test.YtffolbdimkhmmaaDoorCards
import Derived.Test.YtffolbdimkhmmaaDoorTie
import Derived.Test.YtffolbdimkhmmaaDoorSfE
import Derived.Test.YtffolbdimkhmmaaDoorVz
import Derived.Test.YtffolbdimkhmmaaDoorOpF
import Derived.ShutString
import Derived.Stop.LaidErr
import Derived.Shelf.Vars
set_option linter.unusedVariables false
namespace Go.Proofs.YtffolbdimkhmmaaDoor.scriptTexts
open Go Go.ChangeShapes Go.WideShapes Go.ChangeAt Go.RowKit Go.Joins
open Go.ChangeMaps (open_string shut_string)

theorem own : ownKnob Tryd.prog.godebug = none := by kernel_rfl
theorem cS : Tryd.prog.cellsOf 9 = 1 := by kernel_rfl
theorem vars {W : World} (h : laidMet Tryd.prog Rows.scriptTextsUptoRow.laid W) (hs : W.ShapedOpen Tryd.prog) : VarsV W :=
  vars_of (laids := [("math/bits.deBruijn32tab", Rows.laid_math_bits_deBruijn32tab), ("math/bits.deBruijn64tab", Rows.laid_math_bits_deBruijn64tab)]) (x := ("unicode/utf8.acceptRanges", Rows.laid_unicode_utf8_acceptRanges)) (r := [("unicode/utf8.first", Rows.laid_unicode_utf8_first)]) h hs

set_option maxRecDepth 100000 in
theorem rowed : ∀ t ∈ Tryd.f4.params.toList, Tryd.prog.readableRec t = true ∧ t < Tryd.prog.types.size := by
  intro t ht
  rw [Tryd.params4] at ht
  simp at ht
  subst ht
  all_goals exact ⟨by kernel_rfl, of_decide_eq_true (by kernel_rfl)⟩

set_option maxRecDepth 100000 in
theorem contract (H : Type) (enc : TypeId × Value → H) (W : World) (base : Nat) (args : Array Value) (ds gs : List (DataW H)) (before : List MemPlace)
    (hval : ∀ (j : Nat) t v, Tryd.f4.params[j]? = some t → args[j]? = some v → Value.okWide Tryd.prog W .any base t v)
    (hW : DataW.Whole enc Tryd.prog Tryd.f4.params.toList Rows.scriptTextsSpec.vars false W args.toList ds gs before) (hL : laidMetH Tryd.prog Rows.scriptTextsUptoRow.laid W) (hsh : W.ShapedOpen Tryd.prog) (hk : Rows.uptoSmall H (ds ++ gs) = true) :
    Calls Tryd.prog 4 args W fun e W' => ∃ v, e = .returned v ∧ Rows.scriptTextsSpec.post enc Tryd.prog Tryd.f4 false true false false W args v W' := by
  have hW' := hW
  obtain ⟨p, q, hA0, hV, rfl, hfz, hnd⟩ := hW
  have hA : DataW.TrodAll enc Tryd.prog W 0 (fun _ => true) true Tryd.f4.params.toList args.toList ds p := hA0
  rw [Tryd.params4] at hA hval
  obtain ⟨v0, vs0, d0, ds0, p0, q0, hargs, rfl, rfl, h0, r0⟩ := trodAll_cons hA
  obtain ⟨rfl, rfl, rfl⟩ := trodAll_nil r0
  obtain rfl : args = #[v0] := by cases args; simp_all
  obtain ⟨rfl, rfl⟩ := trodVars_none hV
  have hbulk : Rows.uptoBulkAll ([d0] ++ []) ≤ 1048576 := of_decide_eq_true hk
  simp only [List.append_nil, Rows.uptoBulkAll] at hbulk
  obtain ⟨fuel, h0⟩ := h0
  obtain ⟨sa, sn, sc, rfl⟩ := okWide_slice Tryd.underlying23 (hval 0 23 v0 rfl rfl)
  obtain ⟨L, hM, hok, hz⟩ := open_steps (show DataW.trod enc Tryd.prog W 0 (fun _ => true) true fuel 23 [.slice sa sn sc] = some (d0, p0) from by simpa [Value.cells] using h0)
  have hz2 : stsW L ≤ 25 * Rows.uptoBulk d0 := hz
  have hfo := open_steps_form (show DataW.trod enc Tryd.prog W 0 (fun _ => true) true fuel 23 [.slice sa sn sc] = some (d0, p0) from by simpa [Value.cells] using h0)
  refine (scripttexts_any (.slice sa sn sc) L W (vars hL hsh) hM hok (by omega) hfo).mono fun e W' ⟨he, hg⟩ => ?_
  subst he
  exact ⟨_, rfl, post_true hW' rfl rfl rfl rowed hg⟩

noncomputable def wit : Array Value := #[.slice none 0 0]
noncomputable def low : Nat := (World.holding Tryd.prog default ⟨#[], #[], []⟩).heap.size
noncomputable def wW (os : Os) : World := laidV low (World.holding Tryd.prog os ⟨#[.cells #[.string synS] 155, .cells #[.string rngS] 155], #[], []⟩)
theorem laid_met (os : Os) : laidMet Tryd.prog Rows.scriptTextsUptoRow.laid ((wW os).forCall (fun _ _ => 0) ⟨#[], wit, []⟩).memory :=
  laidMet_of_run' 8 (by kernel_rfl) (by kernel_rfl)
theorem reads0 (os : Os) {H : Type} (enc : TypeId × Value → H) : ∃ places, DataW.whole enc Tryd.prog ((wW os).forCall (fun _ _ => 0) ⟨#[], wit, []⟩).memory Tryd.f4.params.toList Rows.scriptTextsSpec.vars false wit.toList 8 =
    some ([.nil], [], places) :=
  ⟨[], by kernel_rfl⟩

set_option maxRecDepth 100000 in
theorem lifted (os : Os) (started : os.Started) (H : Type) (enc : TypeId × Value → H) (F : Stop.Interp) :
    ReturnsInHanded {} Tryd.checked os 4 .any ((Rows.OpenSpec.upto Rows.scriptTextsSpec).preRow enc Tryd.prog Tryd.f4 Rows.scriptTextsUptoRow.domain false Rows.scriptTextsUptoRow.laid) (((Rows.OpenSpec.upto Rows.scriptTextsSpec).at F).post enc Tryd.prog Tryd.f4 false true false false) := by
  obtain ⟨places, hx⟩ := reads0 os enc
  refine returnsInHanded_of_row (C := Tryd.checked) (s := Rows.OpenSpec.upto Rows.scriptTextsSpec) own started (by kernel_rfl) Tryd.func4
    (witness_row_at (enc := enc) (C := Tryd.checked) false (wW os) wit rfl (by kernel_rfl) (by kernel_rfl) (by kernel_rfl)
      (OpenSpec.preRow_of_cond 8 hx (by kernel_rfl) (fun k hk => by cases hk; kernel_rfl) (by kernel_rfl) (laid_met os))) ?_
  intro W base args ds gs before hval hW _ hk _ hL hsh _
  exact contract H enc W base args ds gs before hval hW hL hsh (hk _ rfl)

theorem said : Rows.ScriptTextsUptoSaid :=
  OpenClaim.holds_of_cond 4 Tryd.f4 rfl rfl rfl rfl rfl rfl rfl ⟨rfl, rfl, rfl, rfl, rfl⟩ rfl rfl rfl rfl rfl (by kernel_rfl) Tryd.func4 (by kernel_rfl)
    (of_decide_eq_true (by kernel_rfl)) (by unfold Func.isWrapper; first | (rw [if_pos (by decide +kernel)]; kernel_rfl) | (rw [if_neg (by decide +kernel)]; exact ⟨rfl, rfl⟩))
    (fun os started H enc _ F => by rw [OpenClaim.pre_eq_preRow]; exact lifted os started H enc F)

theorem plain (f : FuncId) (fn : Func) (hf : Tryd.pinned.checked.prog.funcNamed "ostler/ostlerlaw26.ScriptTexts" = some f) (hfn : Tryd.pinned.checked.prog.funcs[f]? = some fn) :
    true = Tryd.pinned.checked.prog.looks [] ∧ ∀ (j : Nat) t, fn.params[j]? = some t → Tryd.pinned.checked.prog.wantsStandIn t = false := by
  obtain rfl : f = 4 := Option.some.inj ((show Tryd.prog.funcNamed "ostler/ostlerlaw26.ScriptTexts" = some 4 by kernel_rfl).symm.trans hf) |>.symm
  obtain rfl : fn = Tryd.f4 := (Option.some.inj (Tryd.func4.symm.trans hfn)).symm
  refine ⟨by kernel_rfl, fun j t ht => ?_⟩
  rw [Tryd.params4] at ht
  have := Array.mem_of_getElem? ht
  simp at this
  subst this
  exact (show Tryd.prog.wantsStandIn 23 = false by kernel_rfl)

/-- ████ THE CARD ████ -/
theorem card : Rows.ScriptTextsUptoCardSaid :=
  Claim7.holds_tied_plain_at .later [] _ _ _ _ said (fun _ h => by cases h) (by kernel_rfl) (fun _ h => by cases h) scriptTextsUpto_row_tie rfl ⟨rfl, rfl⟩ (by kernel_rfl) rfl plain (by kernel_rfl)
#print axioms card
end Go.Proofs.YtffolbdimkhmmaaDoor.scriptTexts
