import Derived.Test.YtffolbdimkhmmaaDoorPkA
import Derived.Lib.ConvBytes
import Derived.Lib.AtoiErrMem
import Derived.Deep.RegionLaw
import Derived.Deep.DeepCutAuto
set_option linter.unusedVariables false
set_option linter.unusedSimpArgs false
namespace Go.Proofs.YtffolbdimkhmmaaDoor
open Go Go.RowKit Go.Lib

/-! ### hex, without memory -/
def digits16 : ByteArray := ⟨#[48, 49, 50, 51, 52, 53, 54, 55, 56, 57, 97, 98, 99, 100, 101, 102]⟩
def dig16 (n : Nat) : UInt8 := digits16.data.toList.getD n 0
def hexL : List UInt8 → List UInt8
  | [] => []
  | c :: r => dig16 (c.toNat / 16) :: dig16 (c.toNat % 16) :: hexL r
def hexB (s : ByteArray) : ByteArray := ⟨(hexL s.data.toList).toArray⟩
theorem hexL_append (a b : List UInt8) : hexL (a ++ b) = hexL a ++ hexL b := by
  induction a with
  | nil => rfl
  | cons c a ih => simp [hexL, ih]
theorem hexL_length (l : List UInt8) : (hexL l).length = 2 * l.length := by
  induction l with
  | nil => rfl
  | cons c a ih => simp [hexL, ih]; omega
def hexK (s : ByteArray) (k : Nat) : ByteArray := ⟨(hexL (s.data.toList.take k)).toArray⟩
def hexTwo (c : UInt8) : ByteArray := ⟨#[dig16 (c.toNat / 16), dig16 (c.toNat % 16)]⟩
theorem ba_ext {a b : ByteArray} (h : a.data.toList = b.data.toList) : a = b := WideShapes.bytes_inj h
theorem ba_app (a b : ByteArray) : (a ++ b).data.toList = a.data.toList ++ b.data.toList := by simp
theorem hexK_snoc (s : ByteArray) (k : Nat) (h : k < s.size) : hexK s (k + 1) = hexK s k ++ hexTwo (s.data.toList.getD k 0) := by
  apply ba_ext
  rw [ba_app]
  unfold hexK
  rw [take_snoc' s k h, hexL_append]
  simp [hexL, hexTwo]
theorem hexK_size (s : ByteArray) (k : Nat) (h : k ≤ s.size) : (hexK s k).size = 2 * k := by
  have e : (hexK s k).size = (hexL (s.data.toList.take k)).length := by simp [hexK, ByteArray.size]
  rw [e, hexL_length, List.length_take, Array.length_toList]
  have : s.data.size = s.size := rfl
  omega
theorem hexK_all (s : ByteArray) : hexK s s.size = hexB s := by
  unfold hexK hexB
  rw [show s.size = s.data.toList.length from Array.length_toList.symm, List.take_length]

theorem and15 (c : UInt8) : bits .and .u8 (c.toNat : Int) 15 = (c.toNat : Int) % 16 := by
  have h := c.toNat_lt
  generalize c.toNat = n at h
  have : ∀ n : Fin 256, bits .and .u8 ((n.1 : Nat) : Int) 15 = ((n.1 : Nat) : Int) % 16 := by decide +kernel
  exact this ⟨n, h⟩

theorem digits_get (i : Nat) (h : i < digits16.size) : digits16[i] = dig16 i := by
  have h2 : i < digits16.data.toList.length := h
  show digits16.data[i] = digits16.data.toList.getD i 0
  rw [List.getD_eq_getElem?_getD, List.getElem?_eq_getElem h2]
  simp
theorem cells_hex {w : World} (c : UInt8) (h1 : ((c.toNat : Int) / 16).toNat < digits16.size) (h2 : ((c.toNat : Int) % 16).toNat < digits16.size) (e : TypeId) :
    ∀ j u, (strCells (hexTwo c))[j]? = some u → (w.alloc (.cells #[.int .u8 (digits16[((c.toNat : Int) / 16).toNat].toNat), .int .u8 (digits16[((c.toNat : Int) % 16).toNat].toNat)] e)).cell? ((⟨w.heap.size, 0, none⟩ : Addr).add j) = some u := by
  refine cells_of_blk (blk_new _ _) ?_
  rw [digits_get _ h1, digits_get _ h2]
  have e1 : ((c.toNat : Int) / 16).toNat = c.toNat / 16 := by omega
  have e2 : ((c.toNat : Int) % 16).toNat = c.toNat % 16 := by omega
  rw [e1, e2]
  simp [strCells, hexTwo]

theorem idx_str (s : ByteArray) (k : Nat) (h : k < s.size) (w : World) : (Instr.index 9 (.string s) (.int .i64 k)).run Tryd.prog w = .ok (.int .u8 (s.data.toList.getD k 0).toNat) w := by
  rw [run_index_string w 9 s .i64 k Tryd.underlying9, dif_pos ⟨by omega, by omega⟩]
  have h2 : k < s.data.toList.length := h
  have : s[(k : Int).toNat]'(by simpa using h) = s.data.toList.getD k 0 := by
    show s.data[(k : Int).toNat]'_ = _
    rw [List.getD_eq_getElem?_getD, List.getElem?_eq_getElem h2]
    simp
  rw [this]

def HexRel (s : ByteArray) (B : Nat) (w : World) (v i : Value) (wr : World) : Prop :=
  ∃ k : Nat, k ≤ s.size ∧ i = .int .i64 k ∧ OwnB wr B v (hexK s k) ∧ Below B w wr ∧ B ≤ wr.heap.size

set_option maxRecDepth 100000 in
set_option maxHeartbeats 1000000 in
theorem hex_any (s : ByteArray) (w : World) (hs : s.size ≤ 35184372088000) :
    Calls Tryd.prog 65 #[.string s] w fun e w' => e = .returned (.string (hexB s)) ∧ Below w.heap.size w w' := by
  go_enter Tryd.func65, Tryd.ntmps65
  go_wp2_with fail
  rw [Lib.run_convert_string_bytes w 9 41 5 s Tryd.underlying9 Tryd.underlying41 Tryd.underlying5]
  simp only [Result.andThen]
  rw [Oper.upon_value]
  have hcell := fun j hj => Lib.bytesWorld_cell w 5 s j hj
  have hbel := Lib.bytesWorld_below w 5 s
  generalize Lib.bytesWorld w 5 s = w2 at hcell hbel ⊢
  have HC := Lib.hid hcell
  have HB := Lib.hid hbel
  clear hcell hbel
  go_wp2_with fail
  go_loopw [3, 9] (fun v i wr => HexRel s w2.heap.size w2 v i wr) (fun _ i _ => s.size - (intOf i).toNat)
  case atStart => exact ⟨0, Nat.zero_le _, rfl, ownB_nil _ _, Below.refl _ _, Nat.le_refl _⟩
  case round =>
    obtain ⟨k, hk, rfl, hO, hK, hsz⟩ := hrel
    have HO := Lib.hid hO
    have HK := Lib.hid hK
    clear hO hK
    by_cases hlt : k < s.size
    · have hcw : wr.cell? ⟨w.heap.size, k, none⟩ = some (.int .u8 (s.data.toList.getD k 0).toNat) := (HK.out.cell (cell_lt (HC.out k hlt))).trans (HC.out k hlt)
      have hc8 := (s.data.toList.getD k 0).toNat_lt
      generalize hcc : s.data.toList.getD k 0 = c at hcw hc8
      have Hc := Lib.hid hcc
      clear hcc
      have hd0 : (0 : Int) ≤ (c.toNat : Int) / 16 := by omega
      have hd1 : (c.toNat : Int) / 16 < 16 := by omega
      have hm0 : (0 : Int) ≤ (c.toNat : Int) % 16 := by omega
      have hm1 : (c.toNat : Int) % 16 < 16 := by omega
      have hbm := and15 c
      go_wp2_with fail
      go_region_law ((refine step_appB (by rfl) _ _ (by rfl) w2.heap.size _ (hexK s k) (by rfl) (HO.out.alloc _) (hexTwo c) ⟨wr.heap.size, 0, none⟩ 2 2 (by rfl) rfl (cells_hex (w := wr) c _ _ _) (by rw [hexK_size s k hk]; have : (hexTwo c).size = 2 := rfl; omega) (by simp; omega) ?_; intro ao n' cap w1 ho hg hv))
      all_goals
        have hkk : Below w2.heap.size w2 w1 ∧ w2.heap.size ≤ w1.heap.size := below_app HK.out HO.out hsz _ (grown_drew hg)
        have HF := Lib.hid (And.intro ho hkk)
        clear ho hg hv hkk
        go_wp2_with fail
        refine ⟨⟨k + 1, hlt, rfl, ?_, HF.out.2.1, HF.out.2.2⟩, ?_⟩
        · rw [hexK_snoc s k hlt, Hc.out]; exact HF.out.1
        · show s.size - ((k : Int) + 1).toNat < s.size - (k : Int).toNat
          omega
    · obtain rfl : k = s.size := by omega
      have HR := Lib.hid (run_str HO.out)
      have hr2 := hexK_all s
      have HX := Lib.hid hr2
      clear hr2
      go_wp2_with fail
      rw [HR.out]
      simp only [Result.andThen]
      rw [Oper.upon_value]
      go_wp2_with fail
      go_ret
      rw [HX.out]
      exact ⟨rfl, HB.out.trans (HK.out.mono HB.out.size)⟩

def RhexRel (s : ByteArray) (w : World) (v i : Value) (wr : World) : Prop :=
  ∃ k : Nat, k ≤ s.size ∧ i = .int .i64 k ∧ OwnB wr w.heap.size v (hexK s k) ∧ Below w.heap.size w wr ∧ w.heap.size ≤ wr.heap.size

set_option maxRecDepth 100000 in
set_option maxHeartbeats 1000000 in
theorem rhex_any (s : ByteArray) (w : World) (hs : s.size ≤ 35184372088000) :
    Calls Tryd.prog 68 #[.string s] w fun e w' => e = .returned (.string (hexB s)) ∧ Below w.heap.size w w' := by
  go_enter Tryd.func68, Tryd.ntmps68
  go_wp2_with fail
  go_loopw [4, 5] (fun v i wr => RhexRel s w v i wr) (fun _ i _ => s.size - (intOf i).toNat)
  case atStart => exact ⟨0, Nat.zero_le _, rfl, ownB_nil _ _, Below.refl _ _, Nat.le_refl _⟩
  case round =>
    obtain ⟨k, hk, rfl, hO, hK, hsz⟩ := hrel
    have HO := Lib.hid hO
    have HK := Lib.hid hK
    clear hO hK
    by_cases hlt : k < s.size
    · have hc8 := (s.data.toList.getD k 0).toNat_lt
      have hk0 : (0 : Int) ≤ (k : Int) := Int.natCast_nonneg _
      have hk1 : (k : Int) < (s.size : Int) := by omega
      have hix := fun W => idx_str s k hlt W
      generalize hcc : s.data.toList.getD k 0 = c at hix hc8
      have Hc := Lib.hid hcc
      clear hcc
      have hd0 : (0 : Int) ≤ (c.toNat : Int) / 16 := by omega
      have hd1 : (c.toNat : Int) / 16 < 16 := by omega
      have hm0 : (0 : Int) ≤ (c.toNat : Int) % 16 := by omega
      have hm1 : (c.toNat : Int) % 16 < 16 := by omega
      have hw1 : IntKind.u8.wrap ((c.toNat : Int) / 16) = (c.toNat : Int) / 16 := IntWalk.u8_in _ (by omega)
      have htm : (c.toNat : Int).tmod 16 = (c.toNat : Int) % 16 := Int.tmod_eq_emod_of_nonneg (Int.natCast_nonneg _)
      have hw2 : IntKind.u8.wrap ((c.toNat : Int) % 16) = (c.toNat : Int) % 16 := IntWalk.u8_in _ (by omega)
      go_wp2_with fail
      go_region_law ((refine step_appB (by rfl) _ _ (by rfl) w.heap.size _ (hexK s k) (by rfl) (HO.out.alloc _) (hexTwo c) ⟨wr.heap.size, 0, none⟩ 2 2 (by rfl) rfl (cells_hex (w := wr) c _ _ _) (by rw [hexK_size s k hk]; have : (hexTwo c).size = 2 := rfl; omega) (by simp; omega) ?_; intro ao n' cap w1 ho hg hv))
      all_goals
        have hkk : Below w.heap.size w w1 ∧ w.heap.size ≤ w1.heap.size := below_app HK.out HO.out hsz _ (grown_drew hg)
        have HF := Lib.hid (And.intro ho hkk)
        clear ho hg hv hkk
        go_wp2_with fail
        refine ⟨⟨k + 1, hlt, rfl, ?_, HF.out.2.1, HF.out.2.2⟩, ?_⟩
        · rw [hexK_snoc s k hlt, Hc.out]; exact HF.out.1
        · show s.size - ((k : Int) + 1).toNat < s.size - (k : Int).toNat
          omega
    · obtain rfl : k = s.size := by omega
      have HR := Lib.hid (run_str HO.out)
      have HX := Lib.hid (hexK_all s)
      go_wp2_with fail
      rw [HR.out]
      simp only [Result.andThen]
      rw [Oper.upon_value]
      go_wp2_with fail
      go_ret
      rw [HX.out]
      exact ⟨rfl, HK.out⟩
end Go.Proofs.YtffolbdimkhmmaaDoor
