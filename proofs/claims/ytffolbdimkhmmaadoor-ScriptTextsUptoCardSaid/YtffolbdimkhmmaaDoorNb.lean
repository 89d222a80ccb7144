import Derived.Test.YtffolbdimkhmmaaDoorBy
import Derived.Deep.OwnRows
set_option linter.unusedVariables false
namespace Go.Proofs.YtffolbdimkhmmaaDoor
open Go Go.RowKit Go.Lib

/-- the lowest byte of a number. -/
def b8 (n : Int) : UInt8 := UInt8.ofNat (n % 256).toNat
theorem b8_toNat (n : Int) : ((b8 n).toNat : Int) = n % 256 := by
  unfold b8
  rw [UInt8.toNat_ofNat']
  omega

/-- one byte. -/
def oneB (x : Int) : ByteArray := ⟨#[b8 x]⟩
theorem strCells_one (x : Int) : strCells (oneB x) = [.int .u8 (x % 256)] := by simp [strCells, oneB, b8_toNat]
theorem oneB_size (x : Int) : (oneB x).size = 1 := rfl
/-- the k first bytes of a number of n. -/
def numTop (x : Int) (n : Nat) : Nat → ByteArray
  | 0 => ⟨#[]⟩
  | k + 1 => numTop x n k ++ oneB (x / (256 ^ (n - 1 - k) : Nat))
theorem numTop_size (x : Int) (n : Nat) : ∀ k, (numTop x n k).size = k
  | 0 => rfl
  | k + 1 => by rw [numTop, ByteArray.size_append, numTop_size x n k, oneB_size]
def numB (x : Int) (n : Nat) : ByteArray := numTop x n n

theorem app_nil (s : ByteArray) : s ++ (⟨#[]⟩ : ByteArray) = s := ByteArray.append_empty
theorem cells_one {w : World} {x y : Int} {e : TypeId} (h : x % 256 = y) : ∀ j u, (strCells (oneB x))[j]? = some u → (w.alloc (.cells #[.int .u8 y] e)).cell? ((⟨w.heap.size, 0, none⟩ : Addr).add j) = some u :=
  cells_of_blk (blk_new _ _) (by rw [strCells_one, h])
theorem below_app {B : Nat} {w wr w' : World} {v : Value} {s : ByteArray} (hb : Below B w wr) (hO : OwnB wr B v s) (hs : B ≤ wr.heap.size) (o : Obj) (hg : (wr.alloc o).grownBy w' v.ownBlock) : Below B w w' ∧ B ≤ w'.heap.size := by
  have hbase : B ≤ (wr.alloc o).heap.size := by rw [size_alloc]; omega
  exact ⟨(hb.alloc hs _).grown hg hbase (fun g hg => (hO.lt g hg).1), Nat.le_trans hbase hg.size⟩

/-- w' is w but for byte blocks from B on, and new ones. -/
def U8 (w : World) (g : Nat) : Prop := ∃ cs fr, w.heap[g]? = some (.cells cs 5 fr)
def KU (B : Nat) (w w' : World) : Prop := Kp (fun g => B ≤ g ∧ U8 w g) w w'
theorem KU.refl (B : Nat) (w : World) : KU B w w := Kp.refl _ _
theorem KU.of_kp {B : Nat} {w w' : World} {S : Nat → Prop} (h : Kp S w w') (hS : ∀ g, S g → g < w.heap.size → B ≤ g ∧ U8 w g) : KU B w w' :=
  ⟨h.os, h.tape, h.output, h.size, fun k hk hn => h.block k hk (fun hs => hn (hS k hs hk))⟩
theorem KU.trans {B : Nat} {a b c : World} (h : KU B a b) (k : KU B b c) : KU B a c := by
  refine ⟨k.os.trans h.os, k.tape.trans h.tape, k.output.trans h.output, Nat.le_trans h.size k.size, fun i hi hn => ?_⟩
  have e := h.block i hi hn
  refine (k.block i (Nat.lt_of_lt_of_le hi h.size) ?_).trans e
  rintro ⟨h1, cs, fr, h2⟩
  exact hn ⟨h1, cs, fr, e ▸ h2⟩
theorem KU.toBelow {B : Nat} {w w' : World} (h : KU B w w') (hB : B ≤ w.heap.size) : Below B w w' := Kp.toBelow h hB (fun i hi => hi.1)
theorem KU.of_below {B : Nat} {w w' : World} (h : Below w.heap.size w w') : KU B w w' := ⟨h.os, h.tape, h.output, h.size, fun k hk _ => h.block k hk⟩
theorem KU.alloc {B : Nat} {a w : World} (h : KU B a w) (o : Obj) : KU B a (w.alloc o) := Kp.alloc h o
theorem OwnB.u8 {w : World} {B : Nat} {v : Value} {s : ByteArray} (h : OwnB w B v s) : ∀ g, v.ownBlock = some g → B ≤ g ∧ U8 w g := by
  intro g hg
  rcases h.2 with ⟨h2, _⟩ | ⟨g', cap, cur, hv, hb, hh, r⟩
  · rw [h2] at hg; cases hg
  · rw [hv] at hg
    obtain rfl : g' = g := Option.some.inj hg
    exact ⟨hb, _, _, hh⟩
theorem KU.grown {B : Nat} {a w w' : World} {v : Value} {s : ByteArray} (h : KU B a w) (hO : OwnB w B v s) (hg : w.grownBy w' v.ownBlock) : KU B a w' :=
  h.trans ⟨hg.os, hg.tape, hg.output, hg.size, fun k hk hn => hg.block k hk (fun e => hn (hO.u8 k e.symm))⟩
theorem KU.row {B : Nat} {w w' : World} (h : KU B w w') {b : Nat} {t : TypeId} {n : Nat} {f : Nat → Value} (hr : w.rowIs b t n f) (ht : t ≠ 5) : w'.rowIs b t n f := by
  refine hr.of_block (h.block b hr.lt ?_)
  rintro ⟨_, cs, fr, h2⟩
  obtain ⟨cs', h3, _⟩ := hr
  rw [h3] at h2
  cases h2
  exact ht rfl
theorem ku_app {B : Nat} {w wr w' : World} {v : Value} {s : ByteArray} (hb : KU B w wr) (hO : OwnB wr B v s) (hs : B ≤ wr.heap.size) (o : Obj) (hg : (wr.alloc o).grownBy w' v.ownBlock) : KU B w w' ∧ B ≤ w'.heap.size := by
  have hbase : B ≤ (wr.alloc o).heap.size := by rw [size_alloc]; omega
  exact ⟨(hb.alloc o).grown (hO.alloc o) hg, Nat.le_trans hbase hg.size⟩
theorem cells_one' {w : World} {g : Nat} {x y : Int} {e : TypeId} (hg : g = w.heap.size) (h : x % 256 = y) : ∀ j u, (strCells (oneB x))[j]? = some u → (w.alloc (.cells #[.int .u8 y] e)).cell? ((⟨g, 0, none⟩ : Addr).add j) = some u := by
  subst hg
  exact cells_one h
theorem desc_of {a b : Value} {i j : Int} (ha : a = .int .i64 i) (hb : b = .int .i64 j) (h : i < j) (h0 : -1 ≤ i) : (intOf a + 1).toNat < (intOf b + 1).toNat := by
  subst ha hb
  show (i + 1).toNat < (j + 1).toNat
  omega
end Go.Proofs.YtffolbdimkhmmaaDoor
