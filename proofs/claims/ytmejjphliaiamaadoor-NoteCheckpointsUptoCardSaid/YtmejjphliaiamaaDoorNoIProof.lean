/-
  For every checkpoint and every text (the two together of bulk at most 1048576), 'ostlerlaw11.NoteCheckpoints' returns true: every checkpoint has the text that the document says, or none, and every text is read as the checkpoint that it says, or as none. No other condition but that the listed package-level variables hold what the program's text lays in them, which the card ties.
-/
import Derived.Test.YtmejjphliaiamaaDoorCards
import Derived.Test.YtmejjphliaiamaaDoorTie
import Derived.Test.YtmejjphliaiamaaDoorNoI
import Derived.Test.YtmejjphliaiamaaDoorVz
import Derived.WalkKit
import Derived.ProofKit
import Derived.OpenShut
import Derived.Lib.SmallJoins
import Derived.ShutString
import Derived.Stop.LaidErr
import Derived.Shelf.Vars
set_option linter.unusedVariables false
namespace Go.Proofs.YtmejjphliaiamaaDoor.noteCheckpoints
open Go Go.ChangeShapes Go.WideShapes Go.ChangeAt Go.RowKit Go.Joins
open Go.ChangeMaps (open_string shut_string)

theorem cellsCp : Tryd.prog.cellsOf 23 = 3 := by kernel_rfl
theorem own : ownKnob Tryd.prog.godebug = none := by kernel_rfl

theorem cS : Tryd.prog.cellsOf 9 = 1 := by kernel_rfl
theorem vars {W : World} (h : laidMet Tryd.prog Rows.noteCheckpointsUptoRow.laid W) (hs : W.ShapedOpen Tryd.prog) : VarsV W :=
  vars_of (laids := [("math/bits.deBruijn32tab", Rows.laid_math_bits_deBruijn32tab), ("math/bits.deBruijn64tab", Rows.laid_math_bits_deBruijn64tab)]) (x := ("unicode/utf8.acceptRanges", Rows.laid_unicode_utf8_acceptRanges)) (r := [("unicode/utf8.first", Rows.laid_unicode_utf8_first)]) h hs
theorem short {H : Type} {d : DataW H} {s : ByteArray} (hk : Rows.uptoSmall H [d, .lit (.string s.data.toList)] = true) : s.size ≤ 2097152 := by
  have h : Rows.uptoBulkAll [d, DataW.lit (H := H) (.string s.data.toList)] ≤ 1048576 := of_decide_eq_true hk
  simp only [Rows.uptoBulkAll, Rows.uptoBulk] at h
  have e2 : s.data.toList.length = s.size := Array.length_toList
  omega

set_option maxRecDepth 100000 in
theorem contract (H : Type) (enc : TypeId × Value → H) (W : World) (base : Nat) (args : Array Value) (ds gs : List (DataW H)) (before : List MemPlace)
    (hval : ∀ (j : Nat) t v, Tryd.f3.params[j]? = some t → args[j]? = some v → Value.okWide Tryd.prog W .any base t v)
    (hW : DataW.Whole enc Tryd.prog Tryd.f3.params.toList Rows.noteCheckpointsSpec.vars false W args.toList ds gs before) (hL : laidMetH Tryd.prog Rows.noteCheckpointsUptoRow.laid W) (hsh : W.ShapedOpen Tryd.prog) (hk : Rows.uptoSmall H (ds ++ gs) = true) :
    Calls Tryd.prog 3 args W fun e W' => ∃ v, e = .returned v ∧ Rows.noteCheckpointsSpec.post enc Tryd.prog Tryd.f3 false true false false W args v W' := by
  have hW' := hW
  obtain ⟨p, q, hA0, hV, rfl, hfz, hnd⟩ := hW
  have hA : DataW.TrodAll enc Tryd.prog W 0 (fun _ => true) true Tryd.f3.params.toList args.toList ds p := hA0
  rw [Tryd.params3] at hA hval
  obtain ⟨v0, vs0, d0, ds0, p0, q0, hargs, rfl, rfl, h0, r0⟩ := trodAll_cons hA
  obtain ⟨v1, vs1, d1, ds1, p1, q1, rfl, rfl, rfl, h1, r1⟩ := trodAll_cons r0
  obtain ⟨rfl, rfl, rfl⟩ := trodAll_nil r1
  obtain rfl : args = #[v0, v1] := by cases args; simp_all
  obtain ⟨rfl, rfl⟩ := trodVars_none hV
  obtain ⟨a1, rfl, rfl, rfl, w1⟩ := open_string Tryd.underlying9 (hval 1 9 v1 rfl rfl) h1
  obtain ⟨c0, c1, c2, y0, y1, y2, m, rfl, rfl, rfl, hy0, hy1, hy2⟩ := open_agg3 Tryd.underlying23 (by kernel_rfl) cellsCp (hval 0 23 v0 rfl rfl) h0
  obtain ⟨t0, e0, rfl, wa0⟩ := DataW.trod_string Tryd.underlying9 hy0
  obtain ⟨t1, e1, rfl, wa1⟩ := DataW.trod_int Tryd.underlying3 hy1
  obtain ⟨t2, e2, rfl, wa2⟩ := DataW.trod_string Tryd.underlying9 hy2
  simp at e0 e1 e2
  subst e0
  subst e1
  subst e2
  clear hA0
  simp only [List.append_nil] at hW' hk
  refine (checkpoints_any t0 t1 t2 a1 W (by unfold maxLen at wa0; omega) (by unfold maxLen at wa2; omega) (short hk) (vars hL hsh)).mono fun e W' ⟨he, hg⟩ => ?_
  subst he
  exact ⟨_, rfl, _, _, _, [], [], [], hW', trodAll_cons_mk (shut_bool Tryd.underlying4 _) trodAll_mk0,
    trodAll_cons_mk (shut_agg3 (y0 := (.lit (.string t0.data.toList), [])) (y1 := (.lit (.int .i64 t1), [])) (y2 := (.lit (.string t2.data.toList), [])) Tryd.underlying23 (by kernel_rfl) cellsCp ⟨1, by simp [DataW.trod, Tryd.underlying9, wa0]⟩ ⟨1, by simp [DataW.trod, Tryd.underlying3, wa1]⟩ ⟨1, by simp [DataW.trod, Tryd.underlying9, wa2]⟩) (trodAll_cons_mk (shut_string Tryd.underlying9 w1) trodAll_mk0), rfl, hg.frame _, fun h => by cases h⟩

noncomputable def wit : Array Value := #[.agg #[.string ByteArray.empty, .int .i64 0, .string ByteArray.empty], .string ByteArray.empty]
noncomputable def low : Nat := (World.holding Tryd.prog default ⟨#[], #[], []⟩).heap.size
noncomputable def wW (os : Os) : World := laidV low (World.holding Tryd.prog os ⟨#[.cells #[.string synS] 121, .cells #[.string rngS] 121], #[], []⟩)
theorem laid_met (os : Os) : laidMet Tryd.prog Rows.noteCheckpointsUptoRow.laid ((wW os).forCall (fun _ _ => 0) ⟨#[], wit, []⟩).memory :=
  laidMet_of_run' 8 (by kernel_rfl) (by kernel_rfl)
theorem reads0 (os : Os) {H : Type} (enc : TypeId × Value → H) : ∃ places, DataW.whole enc Tryd.prog ((wW os).forCall (fun _ _ => 0) ⟨#[], wit, []⟩).memory Tryd.f3.params.toList Rows.noteCheckpointsSpec.vars false wit.toList 8 =
    some ([.agg [.lit (.string []), .lit (.int .i64 0), .lit (.string [])], .lit (.string [])], [], places) :=
  ⟨[], by kernel_rfl⟩

set_option maxRecDepth 100000 in
theorem lifted (os : Os) (started : os.Started) (H : Type) (enc : TypeId × Value → H) (F : Stop.Interp) :
    ReturnsInHanded {} Tryd.checked os 3 .any ((Rows.OpenSpec.upto Rows.noteCheckpointsSpec).preRow enc Tryd.prog Tryd.f3 Rows.noteCheckpointsUptoRow.domain false Rows.noteCheckpointsUptoRow.laid) (((Rows.OpenSpec.upto Rows.noteCheckpointsSpec).at F).post enc Tryd.prog Tryd.f3 false true false false) := by
  obtain ⟨places, hx⟩ := reads0 os enc
  refine returnsInHanded_of_row (C := Tryd.checked) (s := Rows.OpenSpec.upto Rows.noteCheckpointsSpec) own started (by kernel_rfl) Tryd.func3
    (witness_row_at (enc := enc) (C := Tryd.checked) false (wW os) wit rfl (by kernel_rfl) (by kernel_rfl) (by kernel_rfl)
      (OpenSpec.preRow_of_cond 8 hx (by kernel_rfl) (fun k hk => by cases hk; kernel_rfl) (by kernel_rfl) (laid_met os))) ?_
  intro W base args ds gs before hval hW _ hk _ hL hsh _
  exact contract H enc W base args ds gs before hval hW hL hsh (hk _ rfl)

theorem said : Rows.NoteCheckpointsUptoSaid :=
  OpenClaim.holds_of_cond 3 Tryd.f3 rfl rfl rfl rfl rfl rfl rfl ⟨rfl, rfl, rfl, rfl, rfl⟩ rfl rfl rfl rfl rfl (by kernel_rfl) Tryd.func3 (by kernel_rfl)
    (of_decide_eq_true (by kernel_rfl)) (by unfold Func.isWrapper; first | (rw [if_pos (by decide +kernel)]; kernel_rfl) | (rw [if_neg (by decide +kernel)]; exact ⟨rfl, rfl⟩))
    (fun os started H enc _ F => by rw [OpenClaim.pre_eq_preRow]; exact lifted os started H enc F)

theorem plain (f : FuncId) (fn : Func) (hf : Tryd.pinned.checked.prog.funcNamed "ostler/ostlerlaw11.NoteCheckpoints" = some f) (hfn : Tryd.pinned.checked.prog.funcs[f]? = some fn) :
    true = Tryd.pinned.checked.prog.looks [] ∧ ∀ (j : Nat) t, fn.params[j]? = some t → Tryd.pinned.checked.prog.wantsStandIn t = false := by
  obtain rfl : f = 3 := Option.some.inj ((show Tryd.prog.funcNamed "ostler/ostlerlaw11.NoteCheckpoints" = some 3 by kernel_rfl).symm.trans hf) |>.symm
  obtain rfl : fn = Tryd.f3 := (Option.some.inj (Tryd.func3.symm.trans hfn)).symm
  refine ⟨by kernel_rfl, fun j t ht => ?_⟩
  rw [Tryd.params3] at ht
  have := Array.mem_of_getElem? ht
  simp at this
  rcases this with rfl | rfl
  · exact (show Tryd.prog.wantsStandIn 23 = false by kernel_rfl)
  · exact (show Tryd.prog.wantsStandIn 9 = false by kernel_rfl)

/-- ████ THE CARD ████ -/
theorem card : Rows.NoteCheckpointsUptoCardSaid :=
  Claim7.holds_tied_plain_at .later [] _ _ _ _ said (fun _ h => by cases h) (by kernel_rfl) (fun _ h => by cases h) noteCheckpointsUpto_row_tie rfl ⟨rfl, rfl⟩ (by kernel_rfl) rfl plain (by kernel_rfl)
#print axioms card
end Go.Proofs.YtmejjphliaiamaaDoor.noteCheckpoints
