/-
  For every tile and every text (the two together of bulk at most 1048576), 'ostlerlaw10.TilesPaths' returns true: every tile has its path, or none, and every text is the path of the tile that the document says, or of none. No other condition but that the listed package-level variables hold what the program's text lays in them, which the card ties.
-/
import Derived.Test.YtobepddifflpdaaDoorCards
import Derived.Test.YtobepddifflpdaaDoorTie
import Derived.Test.YtobepddifflpdaaDoorTpC
import Derived.Test.YtobepddifflpdaaDoorTlZ
import Derived.WalkKit
import Derived.ProofKit
import Derived.OpenShut
import Derived.Lib.SmallJoins
import Derived.ShutString
import Derived.Stop.LaidErr
import Derived.Shelf.Vars
set_option linter.unusedVariables false
namespace Go.Proofs.YtobepddifflpdaaDoor.tilesPaths
open Go Go.ChangeShapes Go.WideShapes Go.ChangeAt Go.RowKit Go.Joins
open Go.ChangeMaps (open_string shut_string)

theorem own : ownKnob Tryd.prog.godebug = none := by kernel_rfl

theorem tabs {W : World} (h : laidMet Tryd.prog Rows.tilesPathsUptoRow.laid W) : Tabs W := by
  obtain ⟨ps, hv, _⟩ := h
  exact tabs_of_vars (x := ("math/bits.deBruijn32tab", Rows.laid_math_bits_deBruijn32tab)) (y := ("", .nil)) (z := ("", .nil)) hv
theorem tES : (Tryd.prog.globals[4]?).map (·.type) = some 79 := by kernel_rfl
theorem tER : (Tryd.prog.globals[5]?).map (·.type) = some 79 := by kernel_rfl
theorem cES : Tryd.prog.cellsOf 194 = 1 := by kernel_rfl
theorem cS : Tryd.prog.cellsOf 9 = 1 := by kernel_rfl
theorem star : "*" ++ "errors.errorString" = "*errors.errorString" := by decide
theorem rowE (u : TypeId) (h : Tryd.prog.typeName? 3 u = some "*errors.errorString") : u = 192 :=
  typeName_ptr_named (nm := "errors.errorString") (by rw [star]; kernel_rfl) (by kernel_rfl) (by decide) u (by rw [star]; exact h)
theorem vars {W : World} (h : laidMet Tryd.prog Rows.tilesPathsUptoRow.laid W) (hs : W.ShapedOpen Tryd.prog) : Vars W := by
  have hL : laidMet Tryd.prog [("math/bits.deBruijn32tab", Rows.laid_math_bits_deBruijn32tab), ("math/bits.deBruijn64tab", Rows.laid_math_bits_deBruijn64tab), ("internal/strconv.uint64pow10", Rows.laid_internal_strconv_uint64pow10), ("strconv.ErrRange", Rows.laid_strconv_ErrRange), ("strconv.ErrSyntax", Rows.laid_strconv_ErrSyntax)] W := h
  obtain ⟨a1, s1, hv1, -, -, -⟩ := laid_sentinel hL.tail.tail.tail gER tER Tryd.underlying79 rowE Tryd.underlying192 Tryd.underlying194 rfl rfl Tryd.underlying9 cES cS
  obtain ⟨a0, s0, hv0, -, -, -⟩ := laid_sentinel hL.tail.tail.tail.tail gES tES Tryd.underlying79 rowE Tryd.underlying192 Tryd.underlying194 rfl rfl Tryd.underlying9 cES cS
  obtain ⟨m, hm⟩ : ∃ m, W.cell? ⟨3, 0, none⟩ = some (.int .i64 m) :=
    Go.Proofs.cell_of_shapedOpen_int (zero := #[.int .i64 0]) (t := 3) hs (of_decide_eq_true (by kernel_rfl)) (by kernel_rfl) rfl (by kernel_rfl) (by kernel_rfl) Tryd.underlying3
  refine ⟨?_, ⟨m, hm⟩, ⟨_, _, hv0⟩, ⟨_, _, hv1⟩⟩
  have k0 := World.var?_cell gES hv0 0
  have k1 := World.var?_cell gER hv1 0
  have h0 := cell_lt (v := .iface 192 (.pointer (some a0))) (by simpa using k0)
  have h1 := cell_lt (v := .iface 192 (.pointer (some a1))) (by simpa using k1)
  have h2 := cell_lt hm
  have e0 : (⟨4, 0, none⟩ : Addr).block = 4 := rfl
  have e1 : (⟨5, 0, none⟩ : Addr).block = 5 := rfl
  have e2 : (⟨3, 0, none⟩ : Addr).block = 3 := rfl
  rw [e0] at h0
  rw [e1] at h1
  rw [e2] at h2
  unfold nP
  omega
theorem short {H : Type} {d : DataW H} {s : ByteArray} (hk : Rows.uptoSmall H [d, .lit (.string s.data.toList)] = true) : s.size ≤ 1048576 := by
  have h : Rows.uptoBulkAll [d, DataW.lit (H := H) (.string s.data.toList)] ≤ 1048576 := of_decide_eq_true hk
  simp only [Rows.uptoBulkAll, Rows.uptoBulk] at h
  have e2 : s.data.toList.length = s.size := Array.length_toList
  omega

set_option maxRecDepth 100000 in
theorem contract (H : Type) (enc : TypeId × Value → H) (W : World) (base : Nat) (args : Array Value) (ds gs : List (DataW H)) (before : List MemPlace)
    (hval : ∀ (j : Nat) t v, Tryd.f9.params[j]? = some t → args[j]? = some v → Value.okWide Tryd.prog W .any base t v)
    (hW : DataW.Whole enc Tryd.prog Tryd.f9.params.toList Rows.tilesPathsSpec.vars false W args.toList ds gs before) (hL : laidMetH Tryd.prog Rows.tilesPathsUptoRow.laid W) (hsh : W.ShapedOpen Tryd.prog) (hk : Rows.uptoSmall H (ds ++ gs) = true) :
    Calls Tryd.prog 9 args W fun e W' => ∃ v, e = .returned v ∧ Rows.tilesPathsSpec.post enc Tryd.prog Tryd.f9 false true false false W args v W' := by
  have hW' := hW
  obtain ⟨p, q, hA0, hV, rfl, hfz, hnd⟩ := hW
  have hA : DataW.TrodAll enc Tryd.prog W 0 (fun _ => true) true Tryd.f9.params.toList args.toList ds p := hA0
  rw [Tryd.params9] at hA hval
  obtain ⟨v0, vs0, d0, ds0, p0, q0, hargs, rfl, rfl, h0, r0⟩ := trodAll_cons hA
  obtain ⟨v1, vs1, d1, ds1, p1, q1, rfl, rfl, rfl, h1, r1⟩ := trodAll_cons r0
  obtain ⟨rfl, rfl, rfl⟩ := trodAll_nil r1
  obtain rfl : args = #[v0, v1] := by cases args; simp_all
  obtain ⟨rfl, rfl⟩ := trodVars_none hV
  obtain ⟨a1, rfl, rfl, rfl, w1⟩ := open_string Tryd.underlying9 (hval 1 9 v1 rfl rfl) h1
  obtain ⟨c0, c1, c2, y0, y1, y2, m, rfl, rfl, rfl, hy0, hy1, hy2⟩ := open_agg3 Tryd.underlying23 (by kernel_rfl) cellsT (hval 0 23 v0 rfl rfl) h0
  obtain ⟨t0, e0, rfl, wa0⟩ := DataW.trod_int Tryd.underlying3 hy0
  obtain ⟨t1, e1, rfl, wa1⟩ := DataW.trod_int Tryd.underlying3 hy1
  obtain ⟨t2, e2, rfl, wa2⟩ := DataW.trod_int Tryd.underlying3 hy2
  simp at e0 e1 e2
  subst e0
  subst e1
  subst e2
  clear hA0
  simp only [List.append_nil] at hW' hk
  refine (paths_any t0 t1 t2 a1 W (tabs hL) (vars hL hsh) (short hk)).mono fun e W' ⟨he, hg⟩ => ?_
  subst he
  exact ⟨_, rfl, _, _, _, [], [], [], hW', trodAll_cons_mk (shut_bool Tryd.underlying4 _) trodAll_mk0,
    trodAll_cons_mk (shut_agg3 (y0 := (.lit (.int .i64 t0), [])) (y1 := (.lit (.int .i64 t1), [])) (y2 := (.lit (.int .i64 t2), [])) Tryd.underlying23 (by kernel_rfl) cellsT ⟨1, by simp [DataW.trod, Tryd.underlying3, wa0]⟩ ⟨1, by simp [DataW.trod, Tryd.underlying3, wa1]⟩ ⟨1, by simp [DataW.trod, Tryd.underlying3, wa2]⟩) (trodAll_cons_mk (shut_string Tryd.underlying9 w1) trodAll_mk0), rfl, hg.frame _, fun h => by cases h⟩

noncomputable def wit : Array Value := #[.agg #[.int .i64 0, .int .i64 0, .int .i64 0], .string ByteArray.empty]
def synS : ByteArray := ⟨#[105, 110, 118, 97, 108, 105, 100, 32, 115, 121, 110, 116, 97, 120]⟩
def rngS : ByteArray := ⟨#[118, 97, 108, 117, 101, 32, 111, 117, 116, 32, 111, 102, 32, 114, 97, 110, 103, 101]⟩
noncomputable def low : Nat := (World.holding Tryd.prog default ⟨#[], #[], []⟩).heap.size
noncomputable def wW (os : Os) : World :=
  let w0 := laidWorld (World.holding Tryd.prog os ⟨#[.cells #[.string synS] 194, .cells #[.string rngS] 194], #[], []⟩)
  { w0 with heap := (w0.heap.modify 4 fun
      | .cells _ t frozen => .cells #[.iface 192 (.pointer (some ⟨low, 0, none⟩))] t frozen
      | o => o).modify 5 fun
      | .cells _ t frozen => .cells #[.iface 192 (.pointer (some ⟨low + 1, 0, none⟩))] t frozen
      | o => o }
theorem laid_met (os : Os) : laidMet Tryd.prog Rows.tilesPathsUptoRow.laid ((wW os).forCall (fun _ _ => 0) ⟨#[], wit, []⟩).memory :=
  laidMet_of_run' 8 (by kernel_rfl) (by kernel_rfl)
theorem reads0 (os : Os) {H : Type} (enc : TypeId × Value → H) : ∃ places, DataW.whole enc Tryd.prog ((wW os).forCall (fun _ _ => 0) ⟨#[], wit, []⟩).memory Tryd.f9.params.toList Rows.tilesPathsSpec.vars false wit.toList 8 =
    some ([.agg [.lit (.int .i64 0), .lit (.int .i64 0), .lit (.int .i64 0)], .lit (.string [])], [], places) :=
  ⟨[], by kernel_rfl⟩

set_option maxRecDepth 100000 in
theorem lifted (os : Os) (started : os.Started) (H : Type) (enc : TypeId × Value → H) (F : Stop.Interp) :
    ReturnsInHanded {} Tryd.checked os 9 .any ((Rows.OpenSpec.upto Rows.tilesPathsSpec).preRow enc Tryd.prog Tryd.f9 Rows.tilesPathsUptoRow.domain false Rows.tilesPathsUptoRow.laid) (((Rows.OpenSpec.upto Rows.tilesPathsSpec).at F).post enc Tryd.prog Tryd.f9 false true false false) := by
  obtain ⟨places, hx⟩ := reads0 os enc
  refine returnsInHanded_of_row (C := Tryd.checked) (s := Rows.OpenSpec.upto Rows.tilesPathsSpec) own started (by kernel_rfl) Tryd.func9
    (witness_row_at (enc := enc) (C := Tryd.checked) false (wW os) wit rfl (by kernel_rfl) (by kernel_rfl) (by kernel_rfl)
      (OpenSpec.preRow_of_cond 8 hx (by kernel_rfl) (fun k hk => by cases hk; kernel_rfl) (by kernel_rfl) (laid_met os))) ?_
  intro W base args ds gs before hval hW _ hk _ hL hsh _
  exact contract H enc W base args ds gs before hval hW hL hsh (hk _ rfl)

theorem said : Rows.TilesPathsUptoSaid :=
  OpenClaim.holds_of_cond 9 Tryd.f9 rfl rfl rfl rfl rfl rfl rfl ⟨rfl, rfl, rfl, rfl, rfl⟩ rfl rfl rfl rfl rfl (by kernel_rfl) Tryd.func9 (by kernel_rfl)
    (of_decide_eq_true (by kernel_rfl)) (by unfold Func.isWrapper; first | (rw [if_pos (by decide +kernel)]; kernel_rfl) | (rw [if_neg (by decide +kernel)]; exact ⟨rfl, rfl⟩))
    (fun os started H enc _ F => by rw [OpenClaim.pre_eq_preRow]; exact lifted os started H enc F)

theorem plain (f : FuncId) (fn : Func) (hf : Tryd.pinned.checked.prog.funcNamed "ostler/ostlerlaw10.TilesPaths" = some f) (hfn : Tryd.pinned.checked.prog.funcs[f]? = some fn) :
    true = Tryd.pinned.checked.prog.looks [] ∧ ∀ (j : Nat) t, fn.params[j]? = some t → Tryd.pinned.checked.prog.wantsStandIn t = false := by
  obtain rfl : f = 9 := Option.some.inj ((show Tryd.prog.funcNamed "ostler/ostlerlaw10.TilesPaths" = some 9 by kernel_rfl).symm.trans hf) |>.symm
  obtain rfl : fn = Tryd.f9 := (Option.some.inj (Tryd.func9.symm.trans hfn)).symm
  refine ⟨by kernel_rfl, fun j t ht => ?_⟩
  rw [Tryd.params9] at ht
  have := Array.mem_of_getElem? ht
  simp at this
  rcases this with rfl | rfl
  · exact (show Tryd.prog.wantsStandIn 23 = false by kernel_rfl)
  · exact (show Tryd.prog.wantsStandIn 9 = false by kernel_rfl)

/-- ████ THE CARD ████ -/
theorem card : Rows.TilesPathsUptoCardSaid :=
  Claim7.holds_tied_plain_at .later [] _ _ _ _ said (fun _ h => by cases h) (by kernel_rfl) (fun _ h => by cases h) tilesPathsUpto_row_tie rfl ⟨rfl, rfl⟩ (by kernel_rfl) rfl plain (by kernel_rfl)
#print axioms card
end Go.Proofs.YtobepddifflpdaaDoor.tilesPaths
