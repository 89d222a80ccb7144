import Derived.Test.YtffolbdimkhmmaaDoorShelf
import Derived.Test.YtffolbdimkhmmaaDoorWd
import Derived.Lib.LaidTab
import Derived.WalkSmall
import Derived.Lib.AtoiErrMem
import Derived.Lib.AppendIntMem
set_option linter.unusedVariables false
namespace Go.Proofs.YtffolbdimkhmmaaDoor
open Go Go.RowKit Go.Lib

/-! the package-level variables that cutting, reading and telling numbers look into -/
def nV : Nat := max 3 (max 0 (max 1 2)) + 1
theorem gV0 : Tryd.prog.globalNamed "internal/strconv.uint64pow10" = some 3 := by kernel_rfl
theorem gV1 : Tryd.prog.globalNamed "strconv.ErrSyntax" = some 1 := by kernel_rfl
theorem gV2 : Tryd.prog.globalNamed "strconv.ErrRange" = some 2 := by kernel_rfl
theorem nV0 : 3 < nV := by decide
theorem nV1 : 1 < nV := by decide
theorem nV2 : 2 < nV := by decide
theorem nV3 : 0 < nV := by decide
structure VarsV (w : World) : Prop where
  size : nV ≤ w.heap.size
  pow : Lib.TabIs Tryd.prog w "internal/strconv.uint64pow10" .u64 Lib.pow10Tab
  mx : ∃ m, w.cell? ⟨0, 0, none⟩ = some (.int .i64 m)
  es : ∃ tp p, w.var? Tryd.prog "strconv.ErrSyntax" = some #[.iface tp p]
  er : ∃ tp p, w.var? Tryd.prog "strconv.ErrRange" = some #[.iface tp p]
theorem var_keptV {w w' : World} {name : String} {cs : Array Value} {g : Nat} (hg : Tryd.prog.globalNamed name = some g) (h : w.var? Tryd.prog name = some cs) (hb : w'.heap[g]? = w.heap[g]?) : w'.var? Tryd.prog name = some cs := by
  unfold World.var? at h ⊢
  rw [hg] at h ⊢
  simp only [Option.bind_some] at h ⊢
  rw [hb]
  exact h
theorem VarsV.gk {w w' : World} (h : VarsV w) (hs : w.heap.size ≤ w'.heap.size) (hb : ∀ k, k < nV → w'.heap[k]? = w.heap[k]?) : VarsV w' := by
  obtain ⟨h0, hp, ⟨m, hm⟩, ⟨t1, p1, h1⟩, ⟨t2, p2, h2⟩⟩ := h
  exact ⟨Nat.le_trans h0 hs, var_keptV gV0 hp (hb _ nV0), ⟨m, by unfold World.cell? at hm ⊢; rw [hb _ nV3]; exact hm⟩, ⟨t1, p1, var_keptV gV1 h1 (hb _ nV1)⟩, ⟨t2, p2, var_keptV gV2 h2 (hb _ nV2)⟩⟩
theorem VarsV.kp {S : Nat → Prop} {w w' : World} (h : VarsV w) (k : Kp S w w') (hS : ∀ i, S i → nV ≤ i) : VarsV w' :=
  h.gk k.size fun i hi => k.block i (Nat.lt_of_lt_of_le hi h.size) fun hs => by have := hS i hs; omega
theorem VarsV.below {w w' : World} (h : VarsV w) (k : Below w.heap.size w w') : VarsV w' := h.kp (S := fun _ => False) (Kp.of_below k) fun _ h => h.elim
theorem VarsV.alloc {w : World} (h : VarsV w) (o : Obj) : VarsV (w.alloc o) := h.below ((Below.refl _ _).alloc (Nat.le_refl _) _)

/-- the powers of ten alone. -/
def nP : Nat := 3 + 1
structure VarsP (w : World) : Prop where
  size : nP ≤ w.heap.size
  pow : Lib.TabIs Tryd.prog w "internal/strconv.uint64pow10" .u64 Lib.pow10Tab
theorem VarsP.below {w w' : World} (h : VarsP w) (k : Below w.heap.size w w') : VarsP w' :=
  ⟨Nat.le_trans h.size k.size, var_keptV gV0 h.pow (k.block _ (Nat.lt_of_lt_of_le (Nat.lt_succ_self _) h.size))⟩
theorem VarsP.alloc {w : World} (h : VarsP w) (o : Obj) : VarsP (w.alloc o) := h.below ((Below.refl _ _).alloc (Nat.le_refl _) _)
theorem VarsV.p {w : World} (h : VarsV w) : VarsP w := ⟨Nat.le_trans (Nat.succ_le_of_lt nV0) h.size, h.pow⟩
def itoaB (n : Int) : ByteArray := ⟨(Lib.itoa n).toArray⟩
theorem itoa_any (n : Int) (w : World) (h0 : -9223372036854775808 ≤ n) (h1 : n ≤ 9223372036854775807) (hV : VarsV w) :
    Calls Tryd.prog 50 #[.int .i64 n] w fun e w' => e = .returned (.string (itoaB n)) ∧ Below w.heap.size w w' :=
  (Tryd.strconv_Itoa n h0 h1 w hV.pow).mono fun e w'' h => by
    obtain ⟨rfl, k, os, rfl⟩ := h
    exact ⟨rfl, Lib.below_grow _ w (Nat.le_refl _) k os⟩
theorem itoa_anyP (n : Int) (w : World) (h0 : -9223372036854775808 ≤ n) (h1 : n ≤ 9223372036854775807) (hV : VarsP w) :
    Calls Tryd.prog 50 #[.int .i64 n] w fun e w' => e = .returned (.string (itoaB n)) ∧ Below w.heap.size w w' :=
  (Tryd.strconv_Itoa n h0 h1 w hV.pow).mono fun e w'' h => by
    obtain ⟨rfl, k, os, rfl⟩ := h
    exact ⟨rfl, Lib.below_grow _ w (Nat.le_refl _) k os⟩

/-- the number of a text and whether it is one. -/
def atoiR (s : ByteArray) : Int × Bool := match Lib.atoiAll s.data.toList with
  | .ok v => (v, true)
  | .range => (Lib.atoiSat s.data.toList, false)
  | _ => (0, false)
def ErV (ok : Bool) (er : Value) : Prop := (ok = true ∧ er = .nilIface) ∨ (ok = false ∧ ∃ t N, er = .iface t (.pointer (some ⟨N, 0, none⟩)))
def AtoiPostV (s : ByteArray) (w : World) (e : Ending) (w' : World) : Prop := ∃ er, e = .returned (.tuple #[.int .i64 (atoiR s).1, er]) ∧ ErV (atoiR s).2 er ∧ Below w.heap.size w w'
theorem atoi_anyV (s : ByteArray) (w : World) (hs : s.size ≤ 281474976710656) (hV : VarsV w) :
    Calls Tryd.prog 66 #[.string s] w (AtoiPostV s w) := by
  obtain ⟨-, -, -, ⟨t1, p1, h1⟩, ⟨t2, p2, h2⟩⟩ := hV
  cases h : Lib.atoiAll s.data.toList with
  | ok v =>
    refine (Tryd.strconv_Atoi_ok s (by omega) v h w).mono ?_
    rintro e w' ⟨rfl, hw⟩
    refine ⟨_, by unfold atoiR; rw [h], .inl ⟨by unfold atoiR; rw [h], rfl⟩, ?_⟩
    rcases hw with rfl | ⟨t, rfl⟩
    · exact Below.refl _ _
    · exact Lib.bytesWorld_below _ _ _
  | range =>
    refine (Tryd.strconv_Atoi_range_var s (by omega) h t2 p2 w h2).mono ?_
    rintro e w' ⟨N, rfl, -, -, hb⟩
    exact ⟨_, by unfold atoiR; rw [h], .inr ⟨by unfold atoiR; rw [h], _, _, rfl⟩, hb⟩
  | _ =>
    refine (Any.strconv_Atoi_syntax_var Tryd.laysC172 s (by omega) h t1 p1 w h1).mono ?_
    rintro e w' ⟨N, rfl, -, -, hb⟩
    exact ⟨_, by unfold atoiR; rw [h], .inr ⟨by unfold atoiR; rw [h], _, _, rfl⟩, hb⟩
theorem split_any (s sep : ByteArray) (w : World) (hs : s.size < 4294967281) (h1 : 1 ≤ sep.size) (hV : VarsV w) :
    Calls Tryd.prog 33 #[.string s, .string sep] w fun e w' =>
      e = .returned (.slice (some ⟨w.heap.size, 0, none⟩) (Lib.countB s sep + 1) (Lib.countB s sep + 1)) ∧ w' = w.alloc (.cells ((Lib.splitB sep 0 (Lib.countB s sep) s).map Value.string).toArray 9) := by
  obtain ⟨-, -, ⟨m, hm⟩, -, -⟩ := hV
  exact Tryd.strings_Split s sep m w hs hm h1
end Go.Proofs.YtffolbdimkhmmaaDoor
