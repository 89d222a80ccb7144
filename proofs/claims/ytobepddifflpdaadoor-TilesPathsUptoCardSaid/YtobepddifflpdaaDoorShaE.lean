import Derived.Test.YtobepddifflpdaaDoorShaD
set_option linter.unusedVariables false
namespace Go.Proofs.YtobepddifflpdaaDoor
open Go Go.RowKit Go.Lib

/-- the lowest byte of a number. -/
def b8 (n : Int) : UInt8 := UInt8.ofNat (n % 256).toNat
theorem b8_toNat (n : Int) : ((b8 n).toNat : Int) = n % 256 := by
  unfold b8
  rw [UInt8.toNat_ofNat']
  omega
def word4 (x : Int) : ByteArray := ⟨#[b8 (x / 16777216), b8 (x / 65536), b8 (x / 256), b8 x]⟩
theorem strCells_word4 (x : Int) : strCells (word4 x) = [.int .u8 (x / 16777216 % 256), .int .u8 (x / 65536 % 256), .int .u8 (x / 256 % 256), .int .u8 (x % 256)] := by
  simp [strCells, word4, b8_toNat]
def outN (F : Nat → Int) : Nat → ByteArray
  | 0 => ⟨#[]⟩
  | k + 1 => outN F k ++ word4 (F k)
theorem outN_size (F : Nat → Int) : ∀ k, (outN F k).size = 4 * k
  | 0 => rfl
  | k + 1 => by rw [outN, ByteArray.size_append, outN_size F k]; show 4 * k + 4 = _; omega

theorem indexS_0 (a b c d e f g h : Int) (W : World) : (Instr.index 156 (.agg #[.int .u32 a, .int .u32 b, .int .u32 c, .int .u32 d, .int .u32 e, .int .u32 f, .int .u32 g, .int .u32 h]) (.int .i64 0)).run Tryd.prog W = .ok (.int .u32 a) W := by kernel_rfl
theorem indexS_1 (a b c d e f g h : Int) (W : World) : (Instr.index 156 (.agg #[.int .u32 a, .int .u32 b, .int .u32 c, .int .u32 d, .int .u32 e, .int .u32 f, .int .u32 g, .int .u32 h]) (.int .i64 1)).run Tryd.prog W = .ok (.int .u32 b) W := by kernel_rfl
theorem indexS_2 (a b c d e f g h : Int) (W : World) : (Instr.index 156 (.agg #[.int .u32 a, .int .u32 b, .int .u32 c, .int .u32 d, .int .u32 e, .int .u32 f, .int .u32 g, .int .u32 h]) (.int .i64 2)).run Tryd.prog W = .ok (.int .u32 c) W := by kernel_rfl
theorem indexS_3 (a b c d e f g h : Int) (W : World) : (Instr.index 156 (.agg #[.int .u32 a, .int .u32 b, .int .u32 c, .int .u32 d, .int .u32 e, .int .u32 f, .int .u32 g, .int .u32 h]) (.int .i64 3)).run Tryd.prog W = .ok (.int .u32 d) W := by kernel_rfl
theorem indexS_4 (a b c d e f g h : Int) (W : World) : (Instr.index 156 (.agg #[.int .u32 a, .int .u32 b, .int .u32 c, .int .u32 d, .int .u32 e, .int .u32 f, .int .u32 g, .int .u32 h]) (.int .i64 4)).run Tryd.prog W = .ok (.int .u32 e) W := by kernel_rfl
theorem indexS_5 (a b c d e f g h : Int) (W : World) : (Instr.index 156 (.agg #[.int .u32 a, .int .u32 b, .int .u32 c, .int .u32 d, .int .u32 e, .int .u32 f, .int .u32 g, .int .u32 h]) (.int .i64 5)).run Tryd.prog W = .ok (.int .u32 f) W := by kernel_rfl
theorem indexS_6 (a b c d e f g h : Int) (W : World) : (Instr.index 156 (.agg #[.int .u32 a, .int .u32 b, .int .u32 c, .int .u32 d, .int .u32 e, .int .u32 f, .int .u32 g, .int .u32 h]) (.int .i64 6)).run Tryd.prog W = .ok (.int .u32 g) W := by kernel_rfl
theorem indexS_7 (a b c d e f g h : Int) (W : World) : (Instr.index 156 (.agg #[.int .u32 a, .int .u32 b, .int .u32 c, .int .u32 d, .int .u32 e, .int .u32 f, .int .u32 g, .int .u32 h]) (.int .i64 7)).run Tryd.prog W = .ok (.int .u32 h) W := by kernel_rfl
theorem indexS (a b c d e f g h : Int) (k : Nat) (hk : k < 8) (W : World) : (Instr.index 156 (.agg #[.int .u32 a, .int .u32 b, .int .u32 c, .int .u32 d, .int .u32 e, .int .u32 f, .int .u32 g, .int .u32 h]) (.int .i64 (k : Int))).run Tryd.prog W =
    .ok (.int .u32 ((R8.mk a b c d e f g h).get k)) W := by
  have h8 : k = 0 ∨ k = 1 ∨ k = 2 ∨ k = 3 ∨ k = 4 ∨ k = 5 ∨ k = 6 ∨ k = 7 := by omega
  rcases h8 with rfl | rfl | rfl | rfl | rfl | rfl | rfl | rfl
  · exact indexS_0 a b c d e f g h W
  · exact indexS_1 a b c d e f g h W
  · exact indexS_2 a b c d e f g h W
  · exact indexS_3 a b c d e f g h W
  · exact indexS_4 a b c d e f g h W
  · exact indexS_5 a b c d e f g h W
  · exact indexS_6 a b c d e f g h W
  · exact indexS_7 a b c d e f g h W

def TextRel (F : Nat → Int) (B : Nat) (w : World) (v i : Value) (wr : World) : Prop :=
  ∃ k : Nat, k ≤ 8 ∧ i = .int .i64 k ∧ OwnB wr B v (outN F k) ∧ Below B w wr ∧ B ≤ wr.heap.size

set_option maxRecDepth 100000 in
set_option maxHeartbeats 1000000 in
theorem text_any (F : Nat → Int) (w : World) (hF : ∀ j, 0 ≤ F j ∧ F j < 4294967296) :
    Calls Tryd.prog 110 #[.agg #[.int .u32 (F 0), .int .u32 (F 1), .int .u32 (F 2), .int .u32 (F 3), .int .u32 (F 4), .int .u32 (F 5), .int .u32 (F 6), .int .u32 (F 7)]] w fun e w' => e = .returned (.string (outN F 8)) ∧ Below w.heap.size w w' := by
  have HF := Lib.hid hF
  clear hF
  have hix := indexS (F 0) (F 1) (F 2) (F 3) (F 4) (F 5) (F 6) (F 7)
  go_enter Tryd.func110, Tryd.ntmps110
  go_wp2_with fail
  go_loopw [3, 7] (fun v i wr => TextRel F w.heap.size w v i wr) (fun _ i _ => 8 - (intOf i).toNat)
  case atStart => exact ⟨0, Nat.zero_le _, rfl, ownB_nil _ _, (Below.refl _ _).alloc (Nat.le_refl _) _, by rw [size_alloc]; omega⟩
  case round =>
    obtain ⟨k, hk, rfl, hO, hB, hsz⟩ := hrel
    have HO := Lib.hid hO
    have HB := Lib.hid hB
    clear hO hB
    by_cases hlt : k < 8
    · have hix2 := fun W => hix k hlt W
      clear hix
      have gb := HF.out k
      have hg : (R8.mk (F 0) (F 1) (F 2) (F 3) (F 4) (F 5) (F 6) (F 7)).get k = F k := by
        have h8 : k = 0 ∨ k = 1 ∨ k = 2 ∨ k = 3 ∨ k = 4 ∨ k = 5 ∨ k = 6 ∨ k = 7 := by omega
        rcases h8 with rfl | rfl | rfl | rfl | rfl | rfl | rfl | rfl <;> rfl
      simp only [hg] at hix2
      clear hg
      go_wp2_with (first | (at_builtin; refine wpList_appB _ rfl rfl _ _ rfl w.heap.size _ (outN F k) rfl (HO.out.alloc _) (word4 (F k)) ⟨wr.heap.size, 0, none⟩ 4 4 rfl rfl ?cells ?sz ?base ?_) | fail)
      case cells =>
        refine cells_of_blk (blk_new _ _) ?_
        rw [strCells_word4, Int.emod_eq_of_lt (a := F k / 16777216) (by omega) (by omega)]
      case sz => rw [outN_size]; show 4 * k + 4 ≤ _; omega
      case base => rw [size_alloc]; omega
      intro v' w' ho hg
      have HO2 := Lib.hid ho
      have HG := Lib.hid hg
      clear ho hg HF
      go_wp2_with fail
      have hbase : w.heap.size ≤ (wr.alloc (.cells #[.int .u8 (F k / 16777216), .int .u8 (F k / 65536 % 256), .int .u8 (F k / 256 % 256), .int .u8 (F k % 256)] 5)).heap.size := by rw [size_alloc]; omega
      refine ⟨⟨k + 1, hlt, rfl, HO2.out, (HB.out.alloc hsz _).grown HG.out hbase (fun g hg => (HO.out.lt g hg).1), Nat.le_trans hbase HG.out.size⟩, ?_⟩
      show 8 - ((k : Int) + 1).toNat < 8 - (k : Int).toNat
      omega
    · have hk8 : k = 8 := by omega
      subst hk8
      have hs : ∀ W, W = wr → (convert 65 9 u3).run Tryd.prog W = .ok (.string (outN F 8)) W := fun W h => h ▸ run_str HO.out
      go_wp2_with fail
      go_ret
      exact ⟨rfl, HB.out⟩
end Go.Proofs.YtobepddifflpdaaDoor
