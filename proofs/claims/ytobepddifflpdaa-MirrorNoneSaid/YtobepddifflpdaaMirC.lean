import Derived.Test.YtobepddifflpdaaMirB
import Derived.BigQuiet
import Derived.Deep.QuietTactic
set_option linter.unusedVariables false
namespace Go.Proofs.Ytobepddifflpdaa
open Go Go.RowKit Go.Maps Go.WideMaps

def RetB (v : Value) (w : World) (e : Ending) (w' : World) : Prop := e = .returned v ∧ Below w.heap.size w w'

theorem Mir.alloc {w : World} {a : Addr} {v : Option Nat} {n : Nat} {D : DataW Unit} (h : Mir w a v n D) (o : Obj) : Mir (w.alloc o) a v n D :=
  h.below ((Below.refl _ _).alloc (Nat.le_refl _) o)

/-- two new blocks of four cells each, behind what made more. -/
theorem two_blocks {w w1 : World} {a0 a1 a2 a3 b0 b1 b2 b3 : Value} {t u : TypeId} (hb : Below ((w.alloc (.cells #[a0, a1, a2, a3] t)).alloc (.cells #[b0, b1, b2, b3] u)).heap.size ((w.alloc (.cells #[a0, a1, a2, a3] t)).alloc (.cells #[b0, b1, b2, b3] u)) w1) :
    (w1.cell? ⟨w.heap.size, 0, none⟩ = some a0 ∧ w1.cell? ⟨w.heap.size, 1, none⟩ = some a1 ∧ w1.cell? ⟨w.heap.size, 2, none⟩ = some a2 ∧ w1.cell? ⟨w.heap.size, 3, none⟩ = some a3) ∧
    w1.heap[w.heap.size + 1]? = some (.cells #[b0, b1, b2, b3] u (0, 0)) ∧ Below w.heap.size w w1 := by
  have h1 := blk_later (blk_new1 w (.cells #[a0, a1, a2, a3] t) (.cells #[b0, b1, b2, b3] u)) hb
  have h2 := blk_later (blk_new2 w (.cells #[a0, a1, a2, a3] t) (.cells #[b0, b1, b2, b3] u)) hb
  refine ⟨⟨cell_of_blk h1 0 rfl, cell_of_blk h1 1 rfl, cell_of_blk h1 2 rfl, cell_of_blk h1 3 rfl⟩, h2, ?_⟩
  exact (((Below.refl _ _).alloc (Nat.le_refl _) _).alloc (by simp) _).trans (hb.mono (by simp; omega))

theorem four_cells {w : World} {b : Nat} {b0 b1 b2 b3 : Value} {t : TypeId} (h : w.heap[b]? = some (.cells #[b0, b1, b2, b3] t (0, 0))) :
    (w.cell? ⟨b, 0, none⟩ = some b0 ∧ w.cell? ⟨b, 1, none⟩ = some b1 ∧ w.cell? ⟨b, 2, none⟩ = some b2 ∧ w.cell? ⟨b, 3, none⟩ = some b3) ∧ ∀ i, w.frozen? ⟨b, i, none⟩ = false :=
  ⟨⟨cell_of_blk h 0 rfl, cell_of_blk h 1 rfl, cell_of_blk h 2 rfl, cell_of_blk h 3 rfl⟩, fun i => free_of_blk h i⟩

set_option maxRecDepth 100000 in
theorem answer_no (a : Addr) (v : Option Nat) (n : Nat) (D : DataW Unit) (id fr mo : Int) (p : ByteArray) (w : World) (hp : p.size ≤ maxLen) (hM : Mir w a v n D) (hg : mget D p = none) :
    Calls Try.prog 8 #[.pointer (some a), .agg #[.int .i64 id, .string p, .int .i64 fr, .int .i64 mo]] w (RetB (.agg #[.int .i64 id, .int .i64 5, .int .i64 0, .string ⟨#[]⟩]) w) := by
  have HM := Lib.hid hM
  have Hg := Lib.hid hg
  clear hM hg
  go_enter Try.func8, Try.ntmps8
  go_wp2_with fail
  refine (file_no a v n D p _ hp ((HM.out.alloc _).alloc _).cell ((HM.out.alloc _).alloc _).map Hg.out).mono ?_
  rintro e w1 ⟨rfl, hb⟩
  obtain ⟨⟨c0, c1, c2, c3⟩, k1, hB⟩ := two_blocks hb
  obtain ⟨⟨d0, d1, d2, d3⟩, df⟩ := four_cells k1
  have HB := Lib.hid hB
  have hsz : w.heap.size + 1 < w1.heap.size := (Array.getElem?_eq_some_iff.1 k1).1
  clear hb k1 hB
  go_wp2_with fail
  refine bodyPost_ret (v := .agg #[.int .i64 id, .int .i64 5, .int .i64 0, .string ⟨#[]⟩]) (by simp [results, Try.results8, go_sem, d0, d1, d2, d3]) rfl ⟨rfl, ?_⟩
  exact (((HB.out.setCell (Nat.le_succ _) _).setCell (Nat.le_succ _) _).setCell (Nat.le_succ _) _).setCell (Nat.le_succ _) _

set_option maxRecDepth 100000 in
theorem answer_neg (a : Addr) (v : Option Nat) (n : Nat) (D : DataW Unit) (id fr mo : Int) (p s : ByteArray) (w : World) (hp : p.size ≤ maxLen) (hM : Mir w a v n D) (hg : mget D p = some s) (hfr : fr < 0) :
    Calls Try.prog 8 #[.pointer (some a), .agg #[.int .i64 id, .string p, .int .i64 fr, .int .i64 mo]] w (RetB (.agg #[.int .i64 id, .int .i64 1, .int .i64 0, .string ⟨#[]⟩]) w) := by
  have HM := Lib.hid hM
  have Hg := Lib.hid hg
  clear hM hg
  go_enter Try.func8, Try.ntmps8
  go_wp2_with fail
  refine (file_ok a v n D p s _ hp ((HM.out.alloc _).alloc _).cell ((HM.out.alloc _).alloc _).map Hg.out).mono ?_
  rintro e w1 ⟨rfl, hb⟩
  obtain ⟨⟨c0, c1, c2, c3⟩, k1, hB⟩ := two_blocks hb
  obtain ⟨⟨d0, d1, d2, d3⟩, df⟩ := four_cells k1
  have HB := Lib.hid hB
  have hsz : w.heap.size + 1 < w1.heap.size := (Array.getElem?_eq_some_iff.1 k1).1
  clear hb k1 hB
  go_wp2_with fail
  refine bodyPost_ret (v := .agg #[.int .i64 id, .int .i64 1, .int .i64 0, .string ⟨#[]⟩]) (by simp [results, Try.results8, go_sem, d0, d1, d2, d3]) rfl ⟨rfl, ?_⟩
  exact (((HB.out.setCell (Nat.le_succ _) _).setCell (Nat.le_succ _) _).setCell (Nat.le_succ _) _).setCell (Nat.le_succ _) _

set_option maxRecDepth 100000 in
theorem answer_beyond (a : Addr) (v : Option Nat) (n : Nat) (D : DataW Unit) (id fr mo : Int) (p s : ByteArray) (w : World) (hp : p.size ≤ maxLen) (hM : Mir w a v n D) (hg : mget D p = some s) (hfr : 0 ≤ fr) (hbig : (s.size : Int) < fr) :
    Calls Try.prog 8 #[.pointer (some a), .agg #[.int .i64 id, .string p, .int .i64 fr, .int .i64 mo]] w (RetB (.agg #[.int .i64 id, .int .i64 1, .int .i64 0, .string ⟨#[]⟩]) w) := by
  have HM := Lib.hid hM
  have Hg := Lib.hid hg
  clear hM hg
  go_enter Try.func8, Try.ntmps8
  go_wp2_with fail
  refine (file_ok a v n D p s _ hp ((HM.out.alloc _).alloc _).cell ((HM.out.alloc _).alloc _).map Hg.out).mono ?_
  rintro e w1 ⟨rfl, hb⟩
  obtain ⟨⟨c0, c1, c2, c3⟩, k1, hB⟩ := two_blocks hb
  obtain ⟨⟨d0, d1, d2, d3⟩, df⟩ := four_cells k1
  have HB := Lib.hid hB
  have hsz : w.heap.size + 1 < w1.heap.size := (Array.getElem?_eq_some_iff.1 k1).1
  clear hb k1 hB
  go_wp2_with fail
  refine bodyPost_ret (v := .agg #[.int .i64 id, .int .i64 1, .int .i64 0, .string ⟨#[]⟩]) (by simp [results, Try.results8, go_sem, d0, d1, d2, d3]) rfl ⟨rfl, ?_⟩
  exact (((HB.out.setCell (Nat.le_succ _) _).setCell (Nat.le_succ _) _).setCell (Nat.le_succ _) _).setCell (Nat.le_succ _) _

set_option maxRecDepth 100000 in
theorem answer_most (a : Addr) (v : Option Nat) (n : Nat) (D : DataW Unit) (id fr mo : Int) (p s : ByteArray) (w : World) (hp : p.size ≤ maxLen) (hM : Mir w a v n D) (hg : mget D p = some s) (hfr : 0 ≤ fr) (hle : fr ≤ (s.size : Int)) (hmo : mo < 0) :
    Calls Try.prog 8 #[.pointer (some a), .agg #[.int .i64 id, .string p, .int .i64 fr, .int .i64 mo]] w (RetB (.agg #[.int .i64 id, .int .i64 1, .int .i64 0, .string ⟨#[]⟩]) w) := by
  have HM := Lib.hid hM
  have Hg := Lib.hid hg
  clear hM hg
  go_enter Try.func8, Try.ntmps8
  go_wp2_with fail
  refine (file_ok a v n D p s _ hp ((HM.out.alloc _).alloc _).cell ((HM.out.alloc _).alloc _).map Hg.out).mono ?_
  rintro e w1 ⟨rfl, hb⟩
  obtain ⟨⟨c0, c1, c2, c3⟩, k1, hB⟩ := two_blocks hb
  obtain ⟨⟨d0, d1, d2, d3⟩, df⟩ := four_cells k1
  have HB := Lib.hid hB
  have hsz : w.heap.size + 1 < w1.heap.size := (Array.getElem?_eq_some_iff.1 k1).1
  clear hb k1 hB
  go_wp2_with fail
  refine bodyPost_ret (v := .agg #[.int .i64 id, .int .i64 1, .int .i64 0, .string ⟨#[]⟩]) (by simp [results, Try.results8, go_sem, d0, d1, d2, d3]) rfl ⟨rfl, ?_⟩
  exact (((HB.out.setCell (Nat.le_succ _) _).setCell (Nat.le_succ _) _).setCell (Nat.le_succ _) _).setCell (Nat.le_succ _) _

/-- the part of a text from fr on, at most mo bytes. -/
def partOf (s : ByteArray) (fr mo : Int) : ByteArray := s.extract fr.toNat (fr.toNat + min mo.toNat (s.size - fr.toNat))
theorem partOf_all {s : ByteArray} {fr mo : Int} (_h0 : 0 ≤ fr) (hle : fr ≤ (s.size : Int)) (h : ((s.size - fr.toNat : Nat) : Int) < mo) : (s.extract fr.toNat s.size).extract 0 (s.size - fr.toNat) = partOf s fr mo := by
  unfold partOf
  rw [ByteArray.extract_extract, Nat.min_eq_right (by omega)]
  congr 1
  omega
theorem partOf_some {s : ByteArray} {fr mo : Int} (_h0 : 0 ≤ fr) (hle : fr ≤ (s.size : Int)) (hmo : 0 ≤ mo) (h : mo ≤ ((s.size - fr.toNat : Nat) : Int)) : (s.extract fr.toNat s.size).extract 0 mo.toNat = partOf s fr mo := by
  unfold partOf
  rw [ByteArray.extract_extract, Nat.min_eq_left (show mo.toNat ≤ s.size - fr.toNat by omega)]
  congr 1
  omega

set_option maxRecDepth 100000 in
theorem answer_ok (a : Addr) (v : Option Nat) (n : Nat) (D : DataW Unit) (id fr mo : Int) (p s : ByteArray) (w : World) (hp : p.size ≤ maxLen) (hs : s.size ≤ maxLen) (hM : Mir w a v n D) (hg : mget D p = some s) (hfr : 0 ≤ fr) (hle : fr ≤ (s.size : Int)) (hmo : 0 ≤ mo) :
    Calls Try.prog 8 #[.pointer (some a), .agg #[.int .i64 id, .string p, .int .i64 fr, .int .i64 mo]] w (RetB (.agg #[.int .i64 id, .int .i64 0, .int .i64 s.size, .string (partOf s fr mo)]) w) := by
  unfold maxLen at hs
  have HM := Lib.hid hM
  have Hg := Lib.hid hg
  clear hM hg
  go_enter Try.func8, Try.ntmps8
  go_wp2_with fail
  refine (file_ok a v n D p s _ hp ((HM.out.alloc _).alloc _).cell ((HM.out.alloc _).alloc _).map Hg.out).mono ?_
  rintro e w1 ⟨rfl, hb⟩
  obtain ⟨⟨c0, c1, c2, c3⟩, k1, hB⟩ := two_blocks hb
  obtain ⟨⟨d0, d1, d2, d3⟩, df⟩ := four_cells k1
  have HB := Lib.hid hB
  have hsz : w.heap.size + 1 < w1.heap.size := (Array.getElem?_eq_some_iff.1 k1).1
  clear hb k1 hB
  go_wp2_with fail
  go_region
  all_goals go_wp2_with fail
  · have hlt : ((s.size - fr.toNat : Nat) : Int) < mo := by assumption
    rw [partOf_all hfr hle hlt]
    refine bodyPost_ret (v := .agg #[.int .i64 id, .int .i64 0, .int .i64 s.size, .string (partOf s fr mo)]) (by simp [results, Try.results8, go_sem, d0, d1, d2, d3]) rfl ⟨rfl, ?_⟩
    exact ((((HB.out.setCell (Nat.le_succ _) _).setCell (Nat.le_succ _) _).setCell (Nat.le_succ _) _).setCell (Nat.le_succ _) _).drew
  · have hlt : mo ≤ ((s.size - fr.toNat : Nat) : Int) := by assumption
    rw [partOf_some hfr hle hmo hlt]
    refine bodyPost_ret (v := .agg #[.int .i64 id, .int .i64 0, .int .i64 s.size, .string (partOf s fr mo)]) (by simp [results, Try.results8, go_sem, d0, d1, d2, d3]) rfl ⟨rfl, ?_⟩
    exact ((((HB.out.setCell (Nat.le_succ _) _).setCell (Nat.le_succ _) _).setCell (Nat.le_succ _) _).setCell (Nat.le_succ _) _).drew

end Go.Proofs.Ytobepddifflpdaa
