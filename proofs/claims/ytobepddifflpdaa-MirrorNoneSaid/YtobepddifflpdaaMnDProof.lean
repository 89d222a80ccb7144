/-
  For every ask and every text, 'ostlerlaw20.MirrorNone' returns true: a nil mirror has no files. No condition.
-/
import Derived.Test.YtobepddifflpdaaRows
import Derived.Test.YtobepddifflpdaaMnD
import Derived.WalkKit
import Derived.ProofKit
import Derived.OpenShut
import Derived.Lib.SmallJoins
import Derived.ShutString
namespace Go.Proofs.Ytobepddifflpdaa.mirrorNone
open Go Go.ChangeShapes Go.WideShapes Go.ChangeAt Go.RowKit Go.Joins
open Go.ChangeMaps (open_string shut_string)
set_option linter.unusedVariables false      -- a walk need not use every 'w<i>' (that an integer argument fits its kind)

theorem own : ownKnob Try.prog.godebug = none := by kernel_rfl

theorem cellsAsk : Try.prog.cellsOf 33 = 4 := by kernel_rfl
/-! ### THE ROW's STEP: WRITTEN OUT: LEAVE IT -/
set_option maxRecDepth 100000 in
theorem lifted (os : Os) (started : os.Started) (H : Type) (enc : TypeId × Value → H) :
    ReturnsInHanded {} Try.checked os 5 .any (Rows.mirrorNoneSpec.pre6 enc Try.prog Try.f5 Rows.mirrorNoneRow.domain false) (Rows.mirrorNoneSpec.post enc Try.prog Try.f5 false true false false) := by
  refine returnsInHanded_of_change (C := Try.checked) own started (by kernel_rfl) Try.func5
    (ChangeSpec.witness6 (enc := enc) (C := Try.checked) false ⟨#[], #[.agg #[.int .i64 0, .string ByteArray.empty, .int .i64 0, .int .i64 0], .string ByteArray.empty], []⟩ 8 (by kernel_rfl) (by kernel_rfl) (by kernel_rfl) (by kernel_rfl)) ?_
  intro W base args ds gs before hval0 hW hcnd _
  have hval : ∀ (j : Nat) t v, Try.f5.params[j]? = some t → args[j]? = some v → Value.okWide Try.prog W .any base t v := hval0
  have hW' := hW
  obtain ⟨p, q, hA0, hV, rfl, hfz, hnd⟩ := hW
  have hA : DataW.TrodAll enc Try.prog W 0 (fun _ => true) true Try.f5.params.toList args.toList ds p := hA0
  rw [Try.params5] at hA hval
  obtain ⟨v0, vs0, d0, ds0, p0, q0, hargs, rfl, rfl, h0, r0⟩ := trodAll_cons hA
  obtain ⟨v1, vs1, d1, ds1, p1, q1, rfl, rfl, rfl, h1, r1⟩ := trodAll_cons r0
  obtain ⟨rfl, rfl, rfl⟩ := trodAll_nil r1
  obtain rfl : args = #[v0, v1] := by cases args; simp_all
  obtain ⟨rfl, rfl⟩ := trodVars_none hV
  obtain ⟨a1, rfl, rfl, rfl, w1⟩ := open_string Try.underlying9 (hval 1 9 v1 rfl rfl) h1
  obtain ⟨c0, c1, c2, c3, y0, y1, y2, y3, m, rfl, rfl, rfl, hy0, hy1, hy2, hy3⟩ := open_agg4 Try.underlying33 (by kernel_rfl) cellsAsk (hval 0 33 v0 rfl rfl) h0
  obtain ⟨t0, e0, rfl, wa0⟩ := DataW.trod_int Try.underlying3 hy0
  obtain ⟨t1, e1, rfl, wa1⟩ := DataW.trod_string Try.underlying9 hy1
  obtain ⟨t2, e2, rfl, wa2⟩ := DataW.trod_int Try.underlying3 hy2
  obtain ⟨t3, e3, rfl, wa3⟩ := DataW.trod_int Try.underlying3 hy3
  simp at e0 e1 e2 e3
  subst e0
  subst e1
  subst e2
  subst e3
  clear hA0 hval0
  simp only [List.append_nil] at hW'
  refine (none_any t0 t2 t3 t1 a1 W (bounds_i64 wa0) (bounds_i64 wa2) (bounds_i64 wa3) (by unfold maxLen at wa1; omega)).mono fun e W' ⟨he, hg⟩ => ?_
  subst he
  exact ⟨_, rfl, _, _, _, [], [], [], hW', trodAll_cons_mk (shut_bool Try.underlying4 _) trodAll_mk0,
    trodAll_cons_mk (shut_agg4 (y0 := (.lit (.int .i64 t0), [])) (y1 := (.lit (.string t1.data.toList), [])) (y2 := (.lit (.int .i64 t2), [])) (y3 := (.lit (.int .i64 t3), [])) Try.underlying33 (by kernel_rfl) cellsAsk ⟨1, by simp [DataW.trod, Try.underlying3, wa0]⟩ ⟨1, by simp [DataW.trod, Try.underlying9, wa1]⟩ ⟨1, by simp [DataW.trod, Try.underlying3, wa2]⟩ ⟨1, by simp [DataW.trod, Try.underlying3, wa3]⟩) (trodAll_cons_mk (shut_string Try.underlying9 w1) trodAll_mk0), rfl, hg.frame _, fun h => by cases h⟩

theorem over : Rows.mirrorNoneRow.holds Try.pinned (OpenSpec.ofChange Rows.mirrorNoneSpec) :=
  OpenClaim.holds_of_wide 5 Try.f5 rfl rfl rfl rfl rfl rfl rfl ⟨rfl, rfl, rfl, rfl, rfl⟩ rfl rfl rfl rfl rfl (by kernel_rfl) Try.func5 (by kernel_rfl)
    (of_decide_eq_true (by kernel_rfl)) (by unfold Func.isWrapper; first | (rw [if_pos (by decide +kernel)]; kernel_rfl) | (rw [if_neg (by decide +kernel)]; exact ⟨rfl, rfl⟩))
    (fun os started H enc _ => lifted os started H enc)

/-- ████ THE STATEMENT ████ -/
theorem proved : Rows.MirrorNoneSaid :=
  over
#print axioms proved
end Go.Proofs.Ytobepddifflpdaa.mirrorNone
