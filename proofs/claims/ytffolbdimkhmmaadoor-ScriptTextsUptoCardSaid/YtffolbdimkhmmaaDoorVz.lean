/-
  What the tied rows of this seat say of the listed package-level variables; and a world that holds them.
-/
import Derived.Test.YtffolbdimkhmmaaDoorRows
import Derived.Test.YtffolbdimkhmmaaDoorVa
import Derived.Lib.LaidTab
import Derived.Deep.DeepHandedRow
import Derived.Stop.LaidErr
import Derived.Shelf.Vars
set_option linter.unusedVariables false
namespace Go.Proofs.YtffolbdimkhmmaaDoor
open Go Go.RowKit Go.Lib

theorem lv_tail {P : Program} {W : World} {x : String × DataW Unit} {r : List (String × DataW Unit)} {ps : List MemPlace} (h : DataW.LaidVars P W (x :: r) ps) : ∃ q, DataW.LaidVars P W r q := by
  obtain ⟨g, t, cs, fuel, p, q, _, _, _, _, hr, _⟩ := h
  exact ⟨q, hr⟩
theorem tab_of_lv {P : Program} {W : World} {name : String} {k : IntKind} {zs : List Int} {rest : List (String × DataW Unit)} {ps : List MemPlace} {g : Nat} {t e : TypeId} {n : Nat}
    (hg : P.globalNamed name = some g) (hty : (P.globals[g]?).map (·.type) = some t) (ht : P.underlying t = some (.array n e)) (he : P.underlying e = some (.int k)) (hce : P.cellsOf e = 1) (hct : P.cellsOf t = n)
    (h : DataW.LaidVars P W ((name, tabData k zs) :: rest) ps) : TabIs P W name k zs := by
  obtain ⟨g', t', cs, fuel, p, q, hg', ht', hvar, hd, _, _⟩ := h
  obtain rfl := Option.some.inj (hg.symm.trans hg')
  obtain rfl := Option.some.inj (hty.symm.trans ht')
  unfold TabIs
  rw [hvar, ← cells_of_tab ht he hce hct hd]
theorem tyPow : (Tryd.prog.globals[3]?).map (·.type) = some 143 := by kernel_rfl
theorem cPow : Tryd.prog.cellsOf 143 = 20 := by kernel_rfl
theorem c64 : Tryd.prog.cellsOf 107 = 1 := by kernel_rfl
theorem tES : (Tryd.prog.globals[1]?).map (·.type) = some 46 := by kernel_rfl
theorem tER : (Tryd.prog.globals[2]?).map (·.type) = some 46 := by kernel_rfl
theorem cES : Tryd.prog.cellsOf 155 = 1 := by kernel_rfl
theorem cSV : Tryd.prog.cellsOf 9 = 1 := by kernel_rfl
theorem star : "*" ++ "errors.errorString" = "*errors.errorString" := by decide
theorem rowE (u : TypeId) (h : Tryd.prog.typeName? 3 u = some "*errors.errorString") : u = 153 :=
  typeName_ptr_named (nm := "errors.errorString") (by rw [star]; kernel_rfl) (by kernel_rfl) (by decide) u (by rw [star]; exact h)
theorem vars_of {W : World} {laids r : List (String × DataW Unit)} {x : String × DataW Unit} (h : laidMet Tryd.prog [("math/bits.deBruijn32tab", Rows.laid_math_bits_deBruijn32tab), ("math/bits.deBruijn64tab", Rows.laid_math_bits_deBruijn64tab), ("internal/strconv.uint64pow10", Rows.laid_internal_strconv_uint64pow10), ("unicode/utf8.acceptRanges", Rows.laid_unicode_utf8_acceptRanges), ("strconv.ErrRange", Rows.laid_strconv_ErrRange), ("strconv.ErrSyntax", Rows.laid_strconv_ErrSyntax), ("unicode/utf8.first", Rows.laid_unicode_utf8_first)] W) (hs : W.ShapedOpen Tryd.prog) : VarsV W := by
  have hpow : Lib.TabIs Tryd.prog W "internal/strconv.uint64pow10" .u64 Lib.pow10Tab := by
    obtain ⟨ps, hv, _⟩ := h
    obtain ⟨q1, h1⟩ := lv_tail hv
    obtain ⟨q2, h2⟩ := lv_tail h1
    exact tab_of_lv (rest := [("unicode/utf8.acceptRanges", Rows.laid_unicode_utf8_acceptRanges), ("strconv.ErrRange", Rows.laid_strconv_ErrRange), ("strconv.ErrSyntax", Rows.laid_strconv_ErrSyntax), ("unicode/utf8.first", Rows.laid_unicode_utf8_first)]) gV0 tyPow Tryd.underlying143 Tryd.underlying107 c64 cPow h2
  obtain ⟨a1, s1, hv1, -, -, -⟩ := laid_sentinel h.tail.tail.tail.tail gV2 tER Tryd.underlying46 rowE Tryd.underlying153 Tryd.underlying155 rfl rfl Tryd.underlying9 cES cSV
  obtain ⟨a0, s0, hv0, -, -, -⟩ := laid_sentinel h.tail.tail.tail.tail.tail gV1 tES Tryd.underlying46 rowE Tryd.underlying153 Tryd.underlying155 rfl rfl Tryd.underlying9 cES cSV
  obtain ⟨m, hm⟩ : ∃ m, W.cell? ⟨0, 0, none⟩ = some (.int .i64 m) :=
    Go.Proofs.cell_of_shapedOpen_int (zero := #[.int .i64 0]) (t := 3) hs (of_decide_eq_true (by kernel_rfl)) (by kernel_rfl) rfl (by kernel_rfl) (by kernel_rfl) Tryd.underlying3
  refine ⟨?_, hpow, ⟨m, hm⟩, ⟨_, _, hv0⟩, ⟨_, _, hv1⟩⟩
  have k0 := World.var?_cell gV1 hv0 0
  have k1 := World.var?_cell gV2 hv1 0
  have h0 := cell_lt (v := .iface 153 (.pointer (some a0))) (by simpa using k0)
  have h1 := cell_lt (v := .iface 153 (.pointer (some a1))) (by simpa using k1)
  have h2 := cell_lt hm
  have h3 := cell_lt (hpow.cell gV0 0 (by decide))
  have e0 : (⟨1, 0, none⟩ : Addr).block = 1 := rfl
  have e1 : (⟨2, 0, none⟩ : Addr).block = 2 := rfl
  have e2 : (⟨0, 0, none⟩ : Addr).block = 0 := rfl
  have e3 : (⟨3, 0, none⟩ : Addr).block = 3 := rfl
  rw [e0] at h0
  rw [e1] at h1
  rw [e2] at h2
  rw [e3] at h3
  unfold nV
  omega

theorem varsP_of {W : World} {r : List (String × DataW Unit)} (h : laidMet Tryd.prog (("math/bits.deBruijn32tab", Rows.laid_math_bits_deBruijn32tab) :: ("math/bits.deBruijn64tab", Rows.laid_math_bits_deBruijn64tab) :: ("internal/strconv.uint64pow10", Rows.laid_internal_strconv_uint64pow10) :: r) W) : VarsP W := by
  have hpow : Lib.TabIs Tryd.prog W "internal/strconv.uint64pow10" .u64 Lib.pow10Tab := by
    obtain ⟨ps, hv, _⟩ := h
    obtain ⟨q1, h1⟩ := lv_tail hv
    obtain ⟨q2, h2⟩ := lv_tail h1
    exact tab_of_lv (rest := r) gV0 tyPow Tryd.underlying143 Tryd.underlying107 c64 cPow h2
  have h3 := cell_lt (hpow.cell gV0 0 (by decide))
  have e3 : (⟨3, 0, none⟩ : Addr).block = 3 := rfl
  rw [e3] at h3
  exact ⟨h3, hpow⟩
def synS : ByteArray := ⟨#[105, 110, 118, 97, 108, 105, 100, 32, 115, 121, 110, 116, 97, 120]⟩
def rngS : ByteArray := ⟨#[118, 97, 108, 117, 101, 32, 111, 117, 116, 32, 111, 102, 32, 114, 97, 110, 103, 101]⟩
def tab32 : List Int := [0, 1, 28, 2, 29, 14, 24, 3, 30, 22, 20, 15, 25, 17, 4, 8, 31, 27, 13, 23, 21, 19, 16, 7, 26, 12, 18, 6, 11, 5, 10, 9]
def tab64 : List Int := [0, 1, 56, 2, 57, 49, 28, 3, 61, 58, 42, 50, 38, 29, 17, 4, 62, 47, 59, 36, 45, 43, 51, 22, 53, 39, 33, 30, 24, 18, 12, 5, 63, 55, 48, 27, 60, 41, 37, 16, 46, 35, 44, 21, 52, 32, 23, 11, 54, 26, 40, 15, 34, 20, 31, 10, 25, 14, 19, 9, 13, 8, 7, 6]
def tabAcc : List Int := [128, 191, 160, 191, 128, 159, 144, 191, 128, 143] ++ List.replicate 22 0
def putCells (cs : Array Value) : Obj → Obj
  | .cells _ t frozen => .cells cs t frozen
  | o => o
/-- the listed variables laid into a world; the two errors' texts stand at 'low' and behind it. -/
noncomputable def laidV (low : Nat) (w : World) : World :=
  let h1 := w.heap.modify 6 (putCells (tab32.map fun z => Value.int .u8 z).toArray)
  let h2 := h1.modify 7 (putCells (tab64.map fun z => Value.int .u8 z).toArray)
  let h3 := h2.modify 3 (putCells (Lib.pow10Tab.map fun z => Value.int .u64 z).toArray)
  let h4 := h3.modify 5 (putCells (tabAcc.map fun z => Value.int .u8 z).toArray)
  let h5 := h4.modify 1 (putCells #[.iface 153 (.pointer (some ⟨low, 0, none⟩))])
  let h6 := h5.modify 2 (putCells #[.iface 153 (.pointer (some ⟨low + 1, 0, none⟩))])
  { w with heap := h6.modify 4 (putCells (Go.Pinned.utf8FirstZ.map fun (z : Nat) => Value.int .u8 z).toArray) }
end Go.Proofs.YtffolbdimkhmmaaDoor
