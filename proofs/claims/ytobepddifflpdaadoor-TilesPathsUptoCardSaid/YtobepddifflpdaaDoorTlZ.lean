/-
  What the tied rows of this seat say of the listed package-level variables, as tables in a world; and a world that holds them.
-/
import Derived.Test.YtobepddifflpdaaDoorRows
import Derived.Test.YtobepddifflpdaaDoorTlI
import Derived.Lib.LaidTab
import Derived.Deep.DeepHandedRow
set_option linter.unusedVariables false
namespace Go.Proofs.YtobepddifflpdaaDoor
open Go Go.RowKit Go.Lib

theorem lv_tail {P : Program} {W : World} {x : String × DataW Unit} {r : List (String × DataW Unit)} {ps : List MemPlace} (h : DataW.LaidVars P W (x :: r) ps) : ∃ q, DataW.LaidVars P W r q := by
  obtain ⟨g, t, cs, fuel, p, q, _, _, _, _, hr, _⟩ := h
  exact ⟨q, hr⟩
theorem tab_of_lv {P : Program} {W : World} {name : String} {k : IntKind} {zs : List Int} {rest : List (String × DataW Unit)} {ps : List MemPlace} {g : Nat} {t e : TypeId} {n : Nat}
    (hg : P.globalNamed name = some g) (hty : (P.globals[g]?).map (·.type) = some t) (ht : P.underlying t = some (.array n e)) (he : P.underlying e = some (.int k)) (hce : P.cellsOf e = 1) (hct : P.cellsOf t = n)
    (h : DataW.LaidVars P W ((name, tabData k zs) :: rest) ps) : TabIs P W name k zs := by
  obtain ⟨g', t', cs, fuel, p, q, hg', ht', hvar, hd, _, _⟩ := h
  obtain rfl := Option.some.inj (hg.symm.trans hg')
  obtain rfl := Option.some.inj (hty.symm.trans ht')
  unfold TabIs
  rw [hvar, ← cells_of_tab ht he hce hct hd]

theorem tyBru : (Tryd.prog.globals[1]?).map (·.type) = some 161 := by kernel_rfl
theorem tyPow : (Tryd.prog.globals[2]?).map (·.type) = some 166 := by kernel_rfl
theorem cBru : Tryd.prog.cellsOf 161 = 64 := by kernel_rfl
theorem cPow : Tryd.prog.cellsOf 166 = 20 := by kernel_rfl
theorem c8 : Tryd.prog.cellsOf 5 = 1 := by kernel_rfl
theorem c64 : Tryd.prog.cellsOf 134 = 1 := by kernel_rfl

theorem tabs_of_vars {W : World} {x y z : String × DataW Unit} {r : List (String × DataW Unit)} {ps : List MemPlace} (h : DataW.LaidVars Tryd.prog W (x :: ("math/bits.deBruijn64tab", tabData .u8 bruTab) :: ("internal/strconv.uint64pow10", tabData .u64 Lib.pow10Tab) :: r) ps) : Tabs W := by
  obtain ⟨q1, h1⟩ := lv_tail h
  obtain ⟨q2, h2⟩ := lv_tail h1
  have hb := tab_of_lv gBru tyBru Tryd.underlying161 Tryd.underlying5 c8 cBru h1
  have hp := tab_of_lv gPow tyPow Tryd.underlying166 Tryd.underlying134 c64 cPow h2
  refine ⟨?_, hp, hb⟩
  have h1 := cell_lt (hp.cell gPow 0 (by decide))
  have h2 := cell_lt (hb.cell gBru 0 (by decide))
  have e1 : (⟨2, 0, none⟩ : Addr).block = 2 := rfl
  have e2 : (⟨1, 0, none⟩ : Addr).block = 1 := rfl
  rw [e1] at h1
  rw [e2] at h2
  unfold nG
  omega

/-- the three tables laid into a world. -/
noncomputable def laidWorld (w : World) : World :=
  { w with heap := ((w.heap.modify 0 fun
      | .cells _ t frozen => .cells (([0, 1, 28, 2, 29, 14, 24, 3, 30, 22, 20, 15, 25, 17, 4, 8, 31, 27, 13, 23, 21, 19, 16, 7, 26, 12, 18, 6, 11, 5, 10, 9] : List Int).map fun z => Value.int .u8 z).toArray t frozen
      | o => o).modify 1 fun
      | .cells _ t frozen => .cells (bruTab.map fun z => Value.int .u8 z).toArray t frozen
      | o => o).modify 2 fun
      | .cells _ t frozen => .cells (Lib.pow10Tab.map fun z => Value.int .u64 z).toArray t frozen
      | o => o }
end Go.Proofs.YtobepddifflpdaaDoor
