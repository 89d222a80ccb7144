import Derived.Test.YtmejjphliaiamaaGreatDoorShaC
import Derived.Test.YtmejjphliaiamaaGreatDoorByZ
import Derived.Great.BuildSlice
import Derived.Deep.WholeRow
import Derived.Test.YtmejjphliaiamaaGreatDoorNu
set_option linter.unusedVariables false
namespace Go.Proofs.YtmejjphliaiamaaGreatDoor
open Go Go.RowKit Go.Lib

def kNums : List Int := [1116352408, 1899447441, 3049323471, 3921009573, 961987163, 1508970993, 2453635748, 2870763221, 3624381080, 310598401, 607225278, 1426881987, 1925078388, 2162078206, 2614888103, 3248222580, 3835390401, 4022224774, 264347078, 604807628, 770255983, 1249150122, 1555081692, 1996064986, 2554220882, 2821834349, 2952996808, 3210313671, 3336571891, 3584528711, 113926993, 338241895, 666307205, 773529912, 1294757372, 1396182291, 1695183700, 1986661051, 2177026350, 2456956037, 2730485921, 2820302411, 3259730800, 3345764771, 3516065817, 3600352804, 4094571909, 275423344, 430227734, 506948616, 659060556, 883997877, 958139571, 1322822218, 1537002063, 1747873779, 1955562222, 2024104815, 2227730452, 2361852424, 2428436474, 2756734187, 3204031479, 3329325298]
def kCells : Array Value := (kNums.map (Value.int .u32)).toArray
def kF (i : Nat) : Int := kNums.getD i 0
def hNums : List Int := [1779033703, 3144134277, 1013904242, 2773480762, 1359893119, 2600822924, 528734635, 1541459225]
def hF (i : Nat) : Int := hNums.getD i 0
theorem hF_bd (j : Nat) : 0 ≤ hF j ∧ hF j < 4294967296 := by
  unfold hF
  rcases Nat.lt_or_ge j 8 with h | h
  · have h8 : j = 0 ∨ j = 1 ∨ j = 2 ∨ j = 3 ∨ j = 4 ∨ j = 5 ∨ j = 6 ∨ j = 7 := by omega
    rcases h8 with rfl | rfl | rfl | rfl | rfl | rfl | rfl | rfl <;> decide
  · rw [List.getD_eq_getElem?_getD, List.getElem?_eq_none (by simpa [hNums] using h)]
    decide

theorem k_row (w : World) (t : TypeId) : (w.alloc (.cells kCells t)).rowIs w.heap.size t 64 (u32V kF) := by
  refine World.rowIs_alloc w kCells t (u32V kF) ?_
  intro i hi
  have h1 : i < kNums.length := by simpa [kCells] using hi
  unfold kCells u32V kF
  rw [List.getElem?_toArray, List.getElem?_map, List.getElem?_eq_getElem h1, List.getD_eq_getElem?_getD, List.getElem?_eq_getElem h1]
  rfl

set_option maxRecDepth 100000 in
set_option maxHeartbeats 4000000 in
theorem constants_any (w : World) : Calls Tryz.prog 155 #[] w fun e w' => e = .returned (.pointer (some ⟨w.heap.size, 0, none⟩)) ∧ w.alloc (.cells kCells 152) = w' := by
  go_enter Tryz.func155, Tryz.ntmps155
  go_wp2
  go_ret
  exact ⟨rfl, rfl⟩

set_option maxRecDepth 100000 in
set_option maxHeartbeats 4000000 in
theorem words_any (w : World) : Calls Tryz.prog 128 #[] w fun e w' => e = .returned (.agg kCells) ∧ Below w.heap.size w w' := by
  have hi : (Tryz.prog.info? 152).map (·.size) = some kCells.size := by kernel_rfl
  have h1 : kCells.all (·.oneCell') = true := by kernel_rfl
  go_enter Tryz.func128, Tryz.ntmps128
  go_wp2_with (first | refine wpList_store_row rfl 152 _ _ rfl w.heap.size kCells rfl rfl 152 _ (heap_alloc_last _ _) hi rfl h1 ?_ | fail)
  rw [World.setRow_alloc_new]
  refine bodyPost_ret (v := .agg kCells) (results_cell_row rfl _ _ w.heap.size 152 kCells (0, 0) (.array 64 150) rfl (heap_alloc_last _ _) (by kernel_rfl) rfl hi) rfl ⟨rfl, (Below.refl _ _).alloc (Nat.le_refl _) _⟩

def begin8 : Value := .agg #[.int .u32 (hF 0), .int .u32 (hF 1), .int .u32 (hF 2), .int .u32 (hF 3), .int .u32 (hF 4), .int .u32 (hF 5), .int .u32 (hF 6), .int .u32 (hF 7)]
set_option maxRecDepth 100000 in
theorem begin_any (w : World) : Calls Tryz.prog 154 #[] w fun e w' => e = .returned begin8 ∧ Below w.heap.size w w' := by
  go_enter Tryz.func154, Tryz.ntmps154
  go_wp2
  refine bodyPost_ret (v := begin8) (by simp [results, Tryz.results154, begin8, hF, hNums, go_sem]) rfl ⟨rfl, (Below.refl _ _).alloc (Nat.le_refl _) _⟩

def word4 (x : Int) : ByteArray := ⟨#[b8 (x / 16777216), b8 (x / 65536), b8 (x / 256), b8 x]⟩
theorem strCells_word4 (x : Int) : strCells (word4 x) = [.int .u8 (x / 16777216 % 256), .int .u8 (x / 65536 % 256), .int .u8 (x / 256 % 256), .int .u8 (x % 256)] := by
  simp [strCells, word4, b8_toNat]
def outN (F : Nat → Int) : Nat → ByteArray
  | 0 => ⟨#[]⟩
  | k + 1 => outN F k ++ word4 (F k)
theorem outN_size (F : Nat → Int) : ∀ k, (outN F k).size = 4 * k
  | 0 => rfl
  | k + 1 => by rw [outN, ByteArray.size_append, outN_size F k]; show 4 * k + 4 = _; omega

theorem indexS_0 (a b c d e f g h : Int) (W : World) : (Instr.index 181 (.agg #[.int .u32 a, .int .u32 b, .int .u32 c, .int .u32 d, .int .u32 e, .int .u32 f, .int .u32 g, .int .u32 h]) (.int .i64 0)).run Tryz.prog W = .ok (.int .u32 a) W := by kernel_rfl
theorem indexS_1 (a b c d e f g h : Int) (W : World) : (Instr.index 181 (.agg #[.int .u32 a, .int .u32 b, .int .u32 c, .int .u32 d, .int .u32 e, .int .u32 f, .int .u32 g, .int .u32 h]) (.int .i64 1)).run Tryz.prog W = .ok (.int .u32 b) W := by kernel_rfl
theorem indexS_2 (a b c d e f g h : Int) (W : World) : (Instr.index 181 (.agg #[.int .u32 a, .int .u32 b, .int .u32 c, .int .u32 d, .int .u32 e, .int .u32 f, .int .u32 g, .int .u32 h]) (.int .i64 2)).run Tryz.prog W = .ok (.int .u32 c) W := by kernel_rfl
theorem indexS_3 (a b c d e f g h : Int) (W : World) : (Instr.index 181 (.agg #[.int .u32 a, .int .u32 b, .int .u32 c, .int .u32 d, .int .u32 e, .int .u32 f, .int .u32 g, .int .u32 h]) (.int .i64 3)).run Tryz.prog W = .ok (.int .u32 d) W := by kernel_rfl
theorem indexS_4 (a b c d e f g h : Int) (W : World) : (Instr.index 181 (.agg #[.int .u32 a, .int .u32 b, .int .u32 c, .int .u32 d, .int .u32 e, .int .u32 f, .int .u32 g, .int .u32 h]) (.int .i64 4)).run Tryz.prog W = .ok (.int .u32 e) W := by kernel_rfl
theorem indexS_5 (a b c d e f g h : Int) (W : World) : (Instr.index 181 (.agg #[.int .u32 a, .int .u32 b, .int .u32 c, .int .u32 d, .int .u32 e, .int .u32 f, .int .u32 g, .int .u32 h]) (.int .i64 5)).run Tryz.prog W = .ok (.int .u32 f) W := by kernel_rfl
theorem indexS_6 (a b c d e f g h : Int) (W : World) : (Instr.index 181 (.agg #[.int .u32 a, .int .u32 b, .int .u32 c, .int .u32 d, .int .u32 e, .int .u32 f, .int .u32 g, .int .u32 h]) (.int .i64 6)).run Tryz.prog W = .ok (.int .u32 g) W := by kernel_rfl
theorem indexS_7 (a b c d e f g h : Int) (W : World) : (Instr.index 181 (.agg #[.int .u32 a, .int .u32 b, .int .u32 c, .int .u32 d, .int .u32 e, .int .u32 f, .int .u32 g, .int .u32 h]) (.int .i64 7)).run Tryz.prog W = .ok (.int .u32 h) W := by kernel_rfl
theorem indexS (a b c d e f g h : Int) (k : Nat) (hk : k < 8) (W : World) : (Instr.index 181 (.agg #[.int .u32 a, .int .u32 b, .int .u32 c, .int .u32 d, .int .u32 e, .int .u32 f, .int .u32 g, .int .u32 h]) (.int .i64 (k : Int))).run Tryz.prog W =
    .ok (.int .u32 ((R8.mk a b c d e f g h).get k)) W := by
  have h8 : k = 0 ∨ k = 1 ∨ k = 2 ∨ k = 3 ∨ k = 4 ∨ k = 5 ∨ k = 6 ∨ k = 7 := by omega
  rcases h8 with rfl | rfl | rfl | rfl | rfl | rfl | rfl | rfl
  · exact indexS_0 a b c d e f g h W
  · exact indexS_1 a b c d e f g h W
  · exact indexS_2 a b c d e f g h W
  · exact indexS_3 a b c d e f g h W
  · exact indexS_4 a b c d e f g h W
  · exact indexS_5 a b c d e f g h W
  · exact indexS_6 a b c d e f g h W
  · exact indexS_7 a b c d e f g h W

def TextRel (F : Nat → Int) (B : Nat) (w : World) (v i : Value) (wr : World) : Prop :=
  ∃ k : Nat, k ≤ 8 ∧ i = .int .i64 k ∧ OwnB wr B v (outN F k) ∧ Below B w wr ∧ B ≤ wr.heap.size

set_option maxRecDepth 100000 in
set_option maxHeartbeats 1000000 in
theorem shatext_any (F : Nat → Int) (w : World) (hF : ∀ j, 0 ≤ F j ∧ F j < 4294967296) :
    Calls Tryz.prog 157 #[.agg #[.int .u32 (F 0), .int .u32 (F 1), .int .u32 (F 2), .int .u32 (F 3), .int .u32 (F 4), .int .u32 (F 5), .int .u32 (F 6), .int .u32 (F 7)]] w fun e w' => e = .returned (.string (outN F 8)) ∧ Below w.heap.size w w' := by
  have HF := Lib.hid hF
  clear hF
  have hix := indexS (F 0) (F 1) (F 2) (F 3) (F 4) (F 5) (F 6) (F 7)
  go_enter Tryz.func157, Tryz.ntmps157
  go_wp2_with fail
  go_loopw [3, 7] (fun v i wr => TextRel F w.heap.size w v i wr) (fun _ i _ => 8 - (intOf i).toNat)
  case atStart => exact ⟨0, Nat.zero_le _, rfl, ownB_nil _ _, (Below.refl _ _).alloc (Nat.le_refl _) _, by rw [size_alloc]; omega⟩
  case round =>
    obtain ⟨k, hk, rfl, hO, hB, hsz⟩ := hrel
    have HO := Lib.hid hO
    have HB := Lib.hid hB
    clear hO hB
    by_cases hlt : k < 8
    · have hix2 := fun W => hix k hlt W
      clear hix
      have gb := HF.out k
      have hg : (R8.mk (F 0) (F 1) (F 2) (F 3) (F 4) (F 5) (F 6) (F 7)).get k = F k := by
        have h8 : k = 0 ∨ k = 1 ∨ k = 2 ∨ k = 3 ∨ k = 4 ∨ k = 5 ∨ k = 6 ∨ k = 7 := by omega
        rcases h8 with rfl | rfl | rfl | rfl | rfl | rfl | rfl | rfl <;> rfl
      simp only [hg] at hix2
      clear hg
      go_wp2_with (first | (at_builtin; refine wpList_appB _ rfl rfl _ _ rfl w.heap.size _ (outN F k) rfl (HO.out.alloc _) (word4 (F k)) ⟨wr.heap.size, 0, none⟩ 4 4 rfl rfl ?cells ?sz ?base ?_) | fail)
      case cells =>
        refine cells_of_blk (blk_new _ _) ?_
        rw [strCells_word4, Int.emod_eq_of_lt (a := F k / 16777216) (by omega) (by omega)]
      case sz => rw [outN_size]; show 4 * k + 4 ≤ _; omega
      case base => rw [size_alloc]; omega
      intro v' w' ho hg
      have HO2 := Lib.hid ho
      have HG := Lib.hid hg
      clear ho hg HF
      go_wp2_with fail
      have hbase : w.heap.size ≤ (wr.alloc (.cells #[.int .u8 (F k / 16777216), .int .u8 (F k / 65536 % 256), .int .u8 (F k / 256 % 256), .int .u8 (F k % 256)] 5)).heap.size := by rw [size_alloc]; omega
      refine ⟨⟨k + 1, hlt, rfl, HO2.out, (HB.out.alloc hsz _).grown HG.out hbase (fun g hg => (HO.out.lt g hg).1), Nat.le_trans hbase HG.out.size⟩, ?_⟩
      show 8 - ((k : Int) + 1).toNat < 8 - (k : Int).toNat
      omega
    · have hk8 : k = 8 := by omega
      subst hk8
      have hs : ∀ W, W = wr → (convert 47 9 u3).run Tryz.prog W = .ok (.string (outN F 8)) W := fun W h => h ▸ run_str HO.out
      go_wp2_with fail
      go_ret
      exact ⟨rfl, HB.out⟩

def zpad (n : Nat) : Nat := ((119 - (n : Int)) % 64).toNat
def padded (s : ByteArray) : ByteArray := s ++ oneB 128 ++ zerosB (zpad s.size) ++ numB (s.size * 8) 8
theorem shanum_size (x : Int) (n : Nat) : (numB x n).size = n := numTop_size x n n
theorem padded_size (s : ByteArray) : (padded s).size = s.size + 9 + zpad s.size := by
  unfold padded
  rw [ByteArray.size_append, ByteArray.size_append, ByteArray.size_append, zerosB_size, shanum_size, oneB_size]
  omega
theorem padded_div (s : ByteArray) : (padded s).size = 64 * ((padded s).size / 64) := by
  rw [padded_size]
  unfold zpad
  omega
def blkOf (p : ByteArray) (i : Nat) : Nat → Int := fun j => ((p.data.toList.getD (64 * i + j) 0).toNat : Int)
theorem blkOf_bd (p : ByteArray) (i j : Nat) : 0 ≤ blkOf p i j ∧ blkOf p i j < 256 := by
  unfold blkOf
  have := (p.data.toList.getD (64 * i + j) 0).toNat_lt
  omega
def stN (p : ByteArray) : Nat → Nat → Int
  | 0 => hF
  | i + 1 => comp kF (stN p i) (blkOf p i)
theorem stN_bd (p : ByteArray) : ∀ i j, 0 ≤ stN p i j ∧ stN p i j < 4294967296
  | 0, j => hF_bd j
  | i + 1, j => comp_bd kF (stN_bd p i) (blkOf p i) j
def shaB (s : ByteArray) : ByteArray := outN (stN (padded s) ((padded s).size / 64)) 8

theorem strCells_num8 (x : Int) : strCells (numB x 8) = [.int .u8 (x / 72057594037927936 % 256), .int .u8 (x / 281474976710656 % 256), .int .u8 (x / 1099511627776 % 256), .int .u8 (x / 4294967296 % 256), .int .u8 (x / 16777216 % 256), .int .u8 (x / 65536 % 256), .int .u8 (x / 256 % 256), .int .u8 (x % 256)] := by
  simp [numB, numTop, strCells_append, strCells_one]
  rfl

def lenOf : Value → Nat
  | .slice _ l _ => l
  | _ => 0
def HashRel (s : ByteArray) (N g cap h3 sb kb B : Nat) (w : World) (v : Value) (wr : World) : Prop :=
  ∃ i : Nat, i ≤ N ∧ (∃ p, v = .slice p (64 * (N - i)) (cap - 64 * i) ∧ (i < N → p = some ⟨g, 64 * i, none⟩)) ∧ wr.rowIs sb 181 8 (u32V (stN (padded s) i)) ∧ wr.rowIs kb 152 64 (u32V kF) ∧
    (∀ j, j < 64 * N → wr.cell? ⟨g, j, none⟩ = some (.int .u8 ((padded s).data.toList.getD j 0).toNat)) ∧ Below B w wr

set_option maxRecDepth 100000 in
set_option maxHeartbeats 1000000 in
theorem hashed_any (B : Nat) (v : Value) (s : ByteArray) (w : World) (hO : OwnB w B v s) (hB : B ≤ w.heap.size) (hz : s.size ≤ 70368744170000) :
    Calls Tryz.prog 127 #[v] w fun e w' => e = .returned (.string (shaB s)) ∧ Below B w w' := by
  obtain ⟨ad, c, rfl⟩ : ∃ ad c, v = .slice ad s.size c := by
    rcases hO.2 with ⟨h1, h2⟩ | ⟨g, cap, cur, h1, _⟩
    · exact ⟨none, 0, by rw [h1, h2]⟩
    · exact ⟨_, _, h1⟩
  have HO0 := Lib.hid hO
  clear hO
  have hzp : (119 - (s.size : Int)) % 64 = (zpad s.size : Int) := by unfold zpad; omega
  have hzs : zpad s.size < 64 := by unfold zpad; omega
  go_enter Tryz.func127, Tryz.ntmps127
  go_wp2_with (first | (at_builtin; refine wpList_appB _ rfl rfl _ _ rfl B _ s rfl (HO0.out.alloc _) (oneB 128) ⟨w.heap.size, 0, none⟩ 1 1 rfl rfl ?_ ?_ ?_ ?_) | fail)
  · exact cells_one (by decide)
  · rw [oneB_size]; omega
  · rw [size_alloc]; omega
  intro v1 w1 ho hg
  obtain ⟨hb1, hs1⟩ := below_app (Below.refl B w) HO0.out hB _ hg
  have HO1 := Lib.hid ho
  have HB1 := Lib.hid hb1
  clear ho hg hb1 HO0
  go_wp2_with (first | (at_builtin; refine wpList_appZ _ rfl rfl _ _ rfl B _ (s ++ oneB 128) rfl HO1.out (zpad s.size) rfl ?_ ?_ ?_ ?_) | fail)
  · omega
  · rw [ByteArray.size_append, oneB_size]; omega
  · exact hs1
  intro v2 w2 ho hg
  have hb2 := HB1.out.grown hg hs1 (fun g hg => (HO1.out.lt g hg).1)
  have hs2 := Nat.le_trans hs1 hg.size
  have HO2 := Lib.hid ho
  have HB2 := Lib.hid hb2
  clear ho hg hb2 HO1 HB1
  go_wp2_with (first | (at_builtin; refine wpList_appB _ rfl rfl _ _ rfl B _ (s ++ oneB 128 ++ zerosB (zpad s.size)) rfl (HO2.out.alloc _) (numB (s.size * 8) 8) ⟨w2.heap.size, 0, none⟩ 8 8 rfl rfl ?_ ?_ ?_ ?_) | fail)
  · refine cells_of_blk (blk_new _ _) ?_
    rw [strCells_num8, Int.emod_eq_of_lt (a := (s.size : Int) * 8 / 72057594037927936) (by omega) (by omega), Int.emod_eq_of_lt (a := (s.size : Int) * 8 / 281474976710656) (by omega) (by omega)]
  · rw [ByteArray.size_append, ByteArray.size_append, oneB_size, zerosB_size, shanum_size]; omega
  · rw [size_alloc]; omega
  intro v3 w3 ho hg
  obtain ⟨hb3, hs3⟩ := below_app HB2.out HO2.out hs2 _ hg
  have HO3 := Lib.hid (show OwnB w3 B v3 (padded s) from ho)
  have HB3 := Lib.hid hb3
  clear ho hg hb3 HO2 HB2
  have hps := padded_size s
  obtain ⟨g, cap, rfl, hg1, hg2, hcap, hcell⟩ := HO3.out.form (by omega)
  have HC := Lib.hid hcell
  obtain ⟨N, hN⟩ : ∃ N, N = (padded s).size / 64 := ⟨_, rfl⟩
  have hN1 : (padded s).size = 64 * N := by rw [hN]; exact padded_div s
  have hN2 : 64 * N ≤ 70368744170200 := by omega
  have HN := Lib.hid hN
  have HN1 := Lib.hid hN1
  rw [hN1] at hcap ⊢
  clear hcell HO3 hps hzp hzs hN hN1
  go_wp2_with fail
  refine (begin_any w3).mono ?_
  rintro e w4 ⟨rfl, hb4⟩
  unfold begin8
  have HB4 := Lib.hid hb4
  clear hb4
  go_wp2_with fail
  refine (constants_any w4).mono ?_
  rintro e w5 ⟨rfl, h5⟩
  have H5 := Lib.hid h5
  clear h5
  go_wp2_with fail
  have h34 := Lib.hid HB4.out.size
  have h45 := Lib.hid (show w5.heap.size = w4.heap.size + 1 by rw [← H5.out]; simp)
  go_loopw [0] (fun v wr => HashRel s N g cap w3.heap.size w5.heap.size w4.heap.size B w v wr) (fun v _ => lenOf v)
  case atStart =>
    have h34 := h34.out
    have h45 := h45.out
    refine ⟨0, Nat.zero_le _, ⟨_, rfl, fun _ => rfl⟩, ?_, ?_, ?_, ?_⟩
    · refine World.rowIs_alloc w5 _ _ (u32V hF) ?_
      intro j hj
      have h8 : j = 0 ∨ j = 1 ∨ j = 2 ∨ j = 3 ∨ j = 4 ∨ j = 5 ∨ j = 6 ∨ j = 7 := by simp at hj; omega
      rcases h8 with rfl | rfl | rfl | rfl | rfl | rfl | rfl | rfl <;> rfl
    · have h := (k_row w4 152).alloc (.cells #[.int .u32 (hF 0), .int .u32 (hF 1), .int .u32 (hF 2), .int .u32 (hF 3), .int .u32 (hF 4), .int .u32 (hF 5), .int .u32 (hF 6), .int .u32 (hF 7)] 181)
      rw [H5.out] at h
      exact h
    · intro j hj
      refine cell_alloc ?_ _
      have h := cell_alloc ((HB4.out.cell (p := ⟨g, j, none⟩) hg2).trans (HC.out j (by rw [HN1.out]; exact hj))) (.cells kCells 152)
      rw [H5.out] at h
      exact h
    · refine Below.alloc ?_ (by omega) _
      rw [← H5.out]
      exact (HB3.out.trans (HB4.out.mono hs3)).alloc (by omega) _
  case round =>
    obtain ⟨i, hi, ⟨p, rfl, hp⟩, hS, hK, hMM, hbel⟩ := hrel
    have HS := Lib.hid hS
    have HK := Lib.hid hK
    have HM := Lib.hid hMM
    have HB := Lib.hid hbel
    clear hS hK hMM hbel HB4 H5
    by_cases hlt : i < N
    · obtain rfl := hp hlt
      clear hp
      obtain ⟨m, hm⟩ : ∃ m, N - i = m + 1 := ⟨N - i - 1, by omega⟩
      rw [hm]
      go_wp2_with fail
      refine (block_any w5.heap.size w4.heap.size g (64 * i) (cap - 64 * i) _ _ (stN (padded s) i) kF (blkOf (padded s) i) wr HS.out HK.out (fun j hj => HM.out (64 * i + j) (by omega)) (blkOf_bd _ _) (stN_bd _ _) (by omega)).mono ?_
      rintro e w6 ⟨rfl, hS6, hK6⟩
      have HS6 := Lib.hid hS6
      have HK6 := Lib.hid hK6
      clear hS6 hK6
      go_wp2_with fail
      have h34 := h34.out
      have h45 := h45.out
      have hkb : w4.heap.size < wr.heap.size := HK.out.lt
      refine ⟨⟨i + 1, hlt, ⟨if cap - 64 * i = 64 then some ⟨g, 64 * i, none⟩ else some ⟨g, 64 * (i + 1), none⟩, ?_, fun hl => if_neg (show ¬ cap - 64 * i = 64 by omega)⟩, HS6.out, HK.out.of_block (HK6.out.block _ hkb (show ¬ w4.heap.size = w5.heap.size by omega)), fun j hj => (HK6.out.cell (p := ⟨g, j, none⟩) (cell_lt (HM.out j hj)) (show ¬ g = _ by omega)).trans (HM.out j hj), ?_⟩, ?_⟩
      · rw [show 64 * (m + 1) - 64 = 64 * (N - (i + 1)) by omega, show cap - 64 * i - 64 = cap - 64 * (i + 1) by omega]
        rfl
      · refine HB.out.trans (HK6.out.toBelow ?_ ?_)
        · exact Nat.le_trans hB HB.out.size
        · intro j hj
          have hj : j = w5.heap.size := hj
          omega
      · show 64 * (m + 1) - 64 < 64 * (m + 1)
        omega
    · obtain rfl : i = N := by omega
      have c0 : wr.cell? ⟨w5.heap.size, 0, none⟩ = some (.int .u32 (stN (padded s) i 0)) := HS.out.cell (by omega)
      have c1 : wr.cell? ⟨w5.heap.size, 1, none⟩ = some (.int .u32 (stN (padded s) i 1)) := HS.out.cell (by omega)
      have c2 : wr.cell? ⟨w5.heap.size, 2, none⟩ = some (.int .u32 (stN (padded s) i 2)) := HS.out.cell (by omega)
      have c3 : wr.cell? ⟨w5.heap.size, 3, none⟩ = some (.int .u32 (stN (padded s) i 3)) := HS.out.cell (by omega)
      have c4 : wr.cell? ⟨w5.heap.size, 4, none⟩ = some (.int .u32 (stN (padded s) i 4)) := HS.out.cell (by omega)
      have c5 : wr.cell? ⟨w5.heap.size, 5, none⟩ = some (.int .u32 (stN (padded s) i 5)) := HS.out.cell (by omega)
      have c6 : wr.cell? ⟨w5.heap.size, 6, none⟩ = some (.int .u32 (stN (padded s) i 6)) := HS.out.cell (by omega)
      have c7 : wr.cell? ⟨w5.heap.size, 7, none⟩ = some (.int .u32 (stN (padded s) i 7)) := HS.out.cell (by omega)
      go_wp2_with fail
      refine (shatext_any (stN (padded s) i) wr (stN_bd _ _)).mono ?_
      rintro e w6 ⟨rfl, hb6⟩
      have HB6 := Lib.hid hb6
      clear hb6 c0 c1 c2 c3 c4 c5 c6 c7
      go_wp2_with fail
      go_ret
      refine ⟨?_, HB.out.trans (HB6.out.mono (Nat.le_trans hB HB.out.size))⟩
      rw [shaB, ← HN.out]
      rfl

theorem zerosB_succ (n : Nat) : zerosB (n + 1) = zerosB n ++ oneB 0 := by
  refine WideShapes.bytes_inj ?_
  simp [zerosB, oneB, b8, List.replicate_succ']

theorem OwnB.sl {w : World} {B : Nat} {v : Value} {s : ByteArray} (h : OwnB w B v s) : ∃ ad c, v = .slice ad s.size c := by
  rcases h.2 with ⟨h1, h2⟩ | ⟨g, cap, cur, h1, _⟩
  · exact ⟨none, 0, by rw [h1, h2]⟩
  · exact ⟨_, _, h1⟩

theorem kInfo : (Tryz.prog.info? 152).map (·.size) = some kCells.size := by kernel_rfl
theorem kOne : kCells.all (·.oneCell') = true := by kernel_rfl
def BlksRel (s : ByteArray) (N g sb kb B : Nat) (w : World) (i : Value) (wr : World) : Prop :=
  ∃ m : Nat, m ≤ N ∧ i = .int .i64 (64 * (m : Int)) ∧ wr.rowIs sb 151 8 (u32V (stN (padded s) m)) ∧ wr.rowIs kb 152 64 (u32V kF) ∧
    (∀ j, j < 64 * N → wr.cell? ⟨g, j, none⟩ = some (.int .u8 ((padded s).data.toList.getD j 0).toNat)) ∧ Below B w wr
def OutRel (F : Nat → Int) (sb B : Nat) (w : World) (v i : Value) (wr : World) : Prop :=
  ∃ k : Nat, k ≤ 8 ∧ i = .int .i64 k ∧ OwnB wr B v (outN F k) ∧ wr.rowIs sb 151 8 (u32V F) ∧ Below B w wr ∧ B ≤ wr.heap.size

theorem kp_set8 (w : World) (b : Nat) (v0 v1 v2 v3 v4 v5 v6 v7 : Value) : Kp (fun i => i = b) w
    ((((((((w.setCell ⟨b, 0, none⟩ v0).setCell ⟨b, 1, none⟩ v1).setCell ⟨b, 2, none⟩ v2).setCell ⟨b, 3, none⟩ v3).setCell ⟨b, 4, none⟩ v4).setCell ⟨b, 5, none⟩ v5).setCell ⟨b, 6, none⟩ v6).setCell ⟨b, 7, none⟩ v7) :=
  ((((((((Kp.refl (fun i => i = b) w).setCell (p := ⟨b, 0, none⟩) (Or.inl rfl) v0).setCell (p := ⟨b, 1, none⟩) (Or.inl rfl) v1).setCell (p := ⟨b, 2, none⟩) (Or.inl rfl) v2).setCell (p := ⟨b, 3, none⟩) (Or.inl rfl) v3).setCell (p := ⟨b, 4, none⟩) (Or.inl rfl) v4).setCell (p := ⟨b, 5, none⟩) (Or.inl rfl) v5).setCell (p := ⟨b, 6, none⟩) (Or.inl rfl) v6).setCell (p := ⟨b, 7, none⟩) (Or.inl rfl) v7
theorem num4 (x : Int) : numB x 4 = word4 x := by
  refine WideShapes.bytes_inj ?_
  simp [numB, numTop, oneB, word4]

def PadRel (s : ByteArray) (B sb : Nat) (w : World) (v : Value) (wr : World) : Prop :=
  ∃ j : Nat, j ≤ zpad s.size ∧ OwnB wr B v (s ++ oneB 128 ++ zerosB j) ∧ KU B w wr ∧ B ≤ wr.heap.size ∧ wr.rowIs sb 151 8 (u32V hF)

set_option maxRecDepth 100000 in
set_option maxHeartbeats 1000000 in
theorem hash_any (B : Nat) (v : Value) (s : ByteArray) (w : World) (hO : OwnB w B v s) (hB : B ≤ w.heap.size) (hz : s.size ≤ 70368744170000) :
    Calls Tryz.prog 78 #[v] w fun e w' => e = .returned (.string (shaB s)) ∧ Below B w w' := by
  obtain ⟨ad, c, rfl⟩ := hO.sl
  have HO0 := Lib.hid hO
  clear hO
  go_enter Tryz.func78, Tryz.ntmps78
  go_wp2_with (first | (at_builtin; refine wpList_appB _ rfl rfl _ _ rfl B _ s rfl ((HO0.out.alloc _).alloc _) (oneB 128) ⟨w.heap.size + 1, 0, none⟩ 1 1 rfl rfl ?_ ?_ ?_ ?_) | fail)
  · exact cells_one' (by simp) (by decide)
  · rw [oneB_size]; omega
  · rw [size_alloc, size_alloc]; omega
  intro v1 w1 ho hg
  obtain ⟨hk1, hs1⟩ := ku_app ((KU.refl B w).alloc _) (HO0.out.alloc _) (by rw [size_alloc]; omega) _ hg
  have hrow : w1.rowIs w.heap.size 151 8 (u32V hF) := by
    refine KU.row (B := B) (KU.grown ((KU.refl B _)) ((HO0.out.alloc _).alloc _) hg) ?_ (by decide)
    refine World.rowIs.alloc ?_ _
    refine World.rowIs_alloc w _ _ (u32V hF) ?_
    intro j hj
    have h8 : j = 0 ∨ j = 1 ∨ j = 2 ∨ j = 3 ∨ j = 4 ∨ j = 5 ∨ j = 6 ∨ j = 7 := by simp at hj; omega
    rcases h8 with rfl | rfl | rfl | rfl | rfl | rfl | rfl | rfl <;> rfl
  have HO1 := Lib.hid ho
  have HK1 := Lib.hid hk1
  have HR1 := Lib.hid hrow
  clear ho hg hk1 HO0 hrow
  go_wp2_with fail
  go_loopw [0] (fun v wr => PadRel s B w.heap.size w v wr) (fun v _ => s.size + 1 + zpad s.size - lenOf v)
  case atStart => exact ⟨0, Nat.zero_le _, by rw [show zerosB 0 = (⟨#[]⟩ : ByteArray) from rfl, app_nil]; exact HO1.out, HK1.out, hs1, HR1.out⟩
  case round =>
    obtain ⟨j, hj, hO, hbel, hsz, hrow⟩ := hrel
    obtain ⟨ad2, c2, rfl⟩ := hO.sl
    have hlen : (s ++ oneB 128 ++ zerosB j).size = s.size + 1 + j := by rw [ByteArray.size_append, ByteArray.size_append, oneB_size, zerosB_size]
    rw [hlen] at hO ⊢
    have HO := Lib.hid hO
    have HB := Lib.hid hbel
    have HR := Lib.hid hrow
    have Hlen := Lib.hid hlen
    clear hO hbel HO1 HK1 HR1 hrow hlen
    by_cases hlt : j < zpad s.size
    · have hc : (((s.size : Int) + 1 + (j : Int)) % 64 != 56) = true := by
        rw [bne_iff_ne]
        unfold zpad at hlt
        omega
      go_wp2_with (first | (at_builtin; refine wpList_appB _ rfl rfl _ _ rfl B _ (s ++ oneB 128 ++ zerosB j) rfl (HO.out.alloc _) (oneB 0) ⟨wr.heap.size, 0, none⟩ 1 1 rfl rfl ?_ ?_ ?_ ?_) | fail)
      · exact cells_one (by decide)
      · rw [Hlen.out, oneB_size]; unfold zpad at hlt; omega
      · rw [size_alloc]; omega
      intro v2 w2 ho hg
      obtain ⟨hk2, hs2⟩ := ku_app HB.out HO.out hsz _ hg
      have hrow : w2.rowIs w.heap.size 151 8 (u32V hF) := KU.row (B := B) (KU.grown (KU.refl B _) (HO.out.alloc _) hg) (HR.out.alloc _) (by decide)
      obtain ⟨ad3, c3, rfl⟩ := ho.sl
      have HO2 := Lib.hid ho
      have HK2 := Lib.hid hk2
      have HR2 := Lib.hid hrow
      clear ho hg hk2 hrow
      go_wp2_with fail
      refine ⟨⟨j + 1, hlt, by rw [zerosB_succ, ← ByteArray.append_assoc]; exact HO2.out, HK2.out, hs2, HR2.out⟩, ?_⟩
      show s.size + 1 + zpad s.size - (s ++ oneB 128 ++ zerosB j ++ oneB 0).size < s.size + 1 + zpad s.size - (s.size + 1 + j)
      rw [ByteArray.size_append, Hlen.out, oneB_size]
      omega
    · obtain rfl : j = zpad s.size := by omega
      have hc : (((s.size : Int) + 1 + (zpad s.size : Int)) % 64 != 56) = false := by
        rw [bne_eq_false_iff_eq]
        unfold zpad
        omega
      go_wp2_with fail
      refine (number_any B _ _ ((s.size : Int) * 8) 8 wr HO.out (by omega) (by omega) hsz (by rw [Hlen.out]; unfold zpad; omega)).mono ?_
      rintro e w3 ⟨v3, rfl, hO3, hk3⟩
      have hrow := KU.row hk3 HR.out (by decide)
      have hs3 : B ≤ w3.heap.size := Nat.le_trans hsz hk3.size
      have HO3 := Lib.hid (show OwnB w3 B v3 (padded s) from hO3)
      have HK3 := Lib.hid ((HB.out.trans hk3).toBelow hB)
      have HR3 := Lib.hid hrow
      clear hO3 hk3 hrow HO HR HB hc
      have hps := padded_size s
      obtain ⟨g, cap, rfl, hg1, hg2, hcap, hcell⟩ := HO3.out.form (by omega)
      have HC := Lib.hid hcell
      have HU := Lib.hid (HO3.out.u8 g rfl)
      obtain ⟨N, hN⟩ : ∃ N, N = (padded s).size / 64 := ⟨_, rfl⟩
      have hN1 : (padded s).size = 64 * N := by rw [hN]; exact padded_div s
      have hzs : zpad s.size < 64 := by unfold zpad; omega
      have hN2 : 64 * N ≤ 70368744170200 := by omega
      have HN := Lib.hid hN
      have HN1 := Lib.hid hN1
      rw [hN1] at hcap ⊢
      clear hcell HO3 hps hzs hN hN1
      go_wp2_with fail
      refine (words_any w3).mono ?_
      rintro e w4 ⟨rfl, hb4⟩
      have HB4 := Lib.hid hb4
      clear hb4
      go_wp2_with (first | refine wpList_store_row rfl 152 _ _ rfl w4.heap.size kCells rfl rfl 152 _ (heap_alloc_last _ _) kInfo rfl kOne ?_ | fail)
      rw [World.setRow_alloc_new]
      have hsb : w.heap.size < w3.heap.size := HR3.out.lt
      have hk34 : w3.heap.size ≤ w4.heap.size := HB4.out.size
      have hne : g ≠ w.heap.size := by
        intro e
        obtain ⟨_, cs, fr, h2⟩ := HU.out
        obtain ⟨cs', h3, _⟩ := HR3.out
        rw [e, h3] at h2
        exact absurd h2 (by simp)
      have Hsb := Lib.hid hsb
      have Hk34 := Lib.hid hk34
      have Hne := Lib.hid hne
      clear hsb hk34 hne
      go_loopw [6] (fun i wr => BlksRel s N g w.heap.size w4.heap.size B w i wr) (fun i _ => 64 * N - (intOf i).toNat)
      case atStart =>
        have hk34 := Hk34.out
        refine ⟨0, Nat.zero_le _, by simp, (HR3.out.of_block (HB4.out.block _ HR3.out.lt)).alloc _, k_row w4 152, fun j hj => ?_, (HK3.out.trans (HB4.out.mono hs3)).alloc (by omega) _⟩
        exact cell_alloc ((HB4.out.cell (p := ⟨g, j, none⟩) hg2).trans (HC.out j (by rw [HN1.out]; exact hj))) _
      case round =>
        obtain ⟨m, hm, rfl, hS, hK, hMM, hbel⟩ := hrel
        have HS := Lib.hid hS
        have HK := Lib.hid hK
        have HM := Lib.hid hMM
        have HB := Lib.hid hbel
        clear hS hK hMM hbel HK3 HR3 HC HB4
        by_cases hlt : m < N
        · have c0 : wr.cell? ⟨w.heap.size, 0, none⟩ = some (.int .u32 (stN (padded s) m 0)) := HS.out.cell (by omega)
          have c1 : wr.cell? ⟨w.heap.size, 1, none⟩ = some (.int .u32 (stN (padded s) m 1)) := HS.out.cell (by omega)
          have c2 : wr.cell? ⟨w.heap.size, 2, none⟩ = some (.int .u32 (stN (padded s) m 2)) := HS.out.cell (by omega)
          have c3 : wr.cell? ⟨w.heap.size, 3, none⟩ = some (.int .u32 (stN (padded s) m 3)) := HS.out.cell (by omega)
          have c4 : wr.cell? ⟨w.heap.size, 4, none⟩ = some (.int .u32 (stN (padded s) m 4)) := HS.out.cell (by omega)
          have c5 : wr.cell? ⟨w.heap.size, 5, none⟩ = some (.int .u32 (stN (padded s) m 5)) := HS.out.cell (by omega)
          have c6 : wr.cell? ⟨w.heap.size, 6, none⟩ = some (.int .u32 (stN (padded s) m 6)) := HS.out.cell (by omega)
          have c7 : wr.cell? ⟨w.heap.size, 7, none⟩ = some (.int .u32 (stN (padded s) m 7)) := HS.out.cell (by omega)
          go_wp2_with fail
          have hcall := refblock_any w4.heap.size g 0 (64 * m) (64 * N) cap _ (stN (padded s) m) kF (blkOf (padded s) m) wr HK.out (fun j hj => by rw [Nat.zero_add]; exact HM.out (64 * m + j) (by omega)) (blkOf_bd _ _) (stN_bd _ _) (by omega) (by omega)
          rw [show ((64 * m : Nat) : Int) = 64 * (m : Int) by omega] at hcall
          refine hcall.mono ?_
          rintro e w6 ⟨rfl, hb6⟩
          unfold agg8
          have HS6 := Lib.hid (HS.out.of_block (hb6.block _ HS.out.lt))
          have HB6 := Lib.hid hb6
          clear hb6 c0 c1 c2 c3 c4 c5 c6 c7 hcall
          have d0 : w6.cell? ⟨w.heap.size, 0, none⟩ = some (.int .u32 (stN (padded s) m 0)) := HS6.out.cell (by omega)
          have d1 : w6.cell? ⟨w.heap.size, 1, none⟩ = some (.int .u32 (stN (padded s) m 1)) := HS6.out.cell (by omega)
          have d2 : w6.cell? ⟨w.heap.size, 2, none⟩ = some (.int .u32 (stN (padded s) m 2)) := HS6.out.cell (by omega)
          have d3 : w6.cell? ⟨w.heap.size, 3, none⟩ = some (.int .u32 (stN (padded s) m 3)) := HS6.out.cell (by omega)
          have d4 : w6.cell? ⟨w.heap.size, 4, none⟩ = some (.int .u32 (stN (padded s) m 4)) := HS6.out.cell (by omega)
          have d5 : w6.cell? ⟨w.heap.size, 5, none⟩ = some (.int .u32 (stN (padded s) m 5)) := HS6.out.cell (by omega)
          have d6 : w6.cell? ⟨w.heap.size, 6, none⟩ = some (.int .u32 (stN (padded s) m 6)) := HS6.out.cell (by omega)
          have d7 : w6.cell? ⟨w.heap.size, 7, none⟩ = some (.int .u32 (stN (padded s) m 7)) := HS6.out.cell (by omega)
          have fz : ∀ i, w6.frozen? ⟨w.heap.size, i, none⟩ = false := fun i => HS6.out.frozen i
          go_wp2_with fail
          have hsb := Hsb.out
          have hk34 := Hk34.out
          have hne := Hne.out
          have hkp := kp_set8 w6 w.heap.size (.int .u32 (comp kF (stN (padded s) m) (blkOf (padded s) m) 0)) (.int .u32 (comp kF (stN (padded s) m) (blkOf (padded s) m) 1)) (.int .u32 (comp kF (stN (padded s) m) (blkOf (padded s) m) 2)) (.int .u32 (comp kF (stN (padded s) m) (blkOf (padded s) m) 3))
            (.int .u32 (comp kF (stN (padded s) m) (blkOf (padded s) m) 4)) (.int .u32 (comp kF (stN (padded s) m) (blkOf (padded s) m) 5)) (.int .u32 (comp kF (stN (padded s) m) (blkOf (padded s) m) 6)) (.int .u32 (comp kF (stN (padded s) m) (blkOf (padded s) m) 7))
          have hK6 : w6.rowIs w4.heap.size 152 64 (u32V kF) := HK.out.of_block (HB6.out.block _ HK.out.lt)
          refine ⟨⟨m + 1, hlt, by congr 1, row8_set w6 _ _ _ _ _ _ _ _ _ _ _ _ HS6.out ⟨rfl, rfl, rfl, rfl, rfl, rfl, rfl, rfl⟩, hK6.of_block (hkp.block _ hK6.lt (show ¬ w4.heap.size = w.heap.size by omega)), fun j hj => ?_, ?_⟩, ?_⟩
          · have h1 := (HB6.out.cell (p := ⟨g, j, none⟩) (cell_lt (HM.out j hj))).trans (HM.out j hj)
            exact (hkp.cell (p := ⟨g, j, none⟩) (cell_lt h1) hne).trans h1
          · have h1 := HB.out.trans (HB6.out.mono (Nat.le_trans hB HB.out.size))
            refine h1.trans (hkp.toBelow (Nat.le_trans hB h1.size) ?_)
            intro j hj
            have hj : j = w.heap.size := hj
            omega
          · show 64 * N - (64 * (m : Int) + 64).toNat < 64 * N - (64 * (m : Int)).toNat
            omega
        · obtain rfl : m = N := by omega
          go_wp2_with fail
          clear HM HK
          generalize wr = wo at HS HB ⊢
          have HFb := Lib.hid (stN_bd (padded s) m)
          generalize hF : stN (padded s) m = F at HS HFb
          have HFe := Lib.hid hF
          clear hF
          go_loopw [7, 8] (fun v i wr => OutRel F w.heap.size wo.heap.size wo v i wr) (fun _ i _ => 8 - (intOf i).toNat)
          case atStart => exact ⟨0, Nat.zero_le _, rfl, ownB_nil _ _, HS.out, Below.refl _ _, Nat.le_refl _⟩
          case round =>
            obtain ⟨k, hk, rfl, hO, hR, hbel, hsz⟩ := hrel
            have HO := Lib.hid hO
            have HR := Lib.hid hR
            have HB2 := Lib.hid hbel
            clear hO hR hbel HS
            by_cases hlt : k < 8
            · have c1 : wr.cell? ⟨w.heap.size, k, none⟩ = some (.int .u32 (F k)) := HR.out.cell hlt
              have gb := HFb.out k
              go_wp2_with fail
              refine (number_any wo.heap.size u7 (outN F k) (F k) 4 wr HO.out (by omega) (by omega) hsz (by rw [outN_size]; omega)).mono ?_
              rintro e w7 ⟨v7, rfl, hO7, hk7⟩
              have HO7 := Lib.hid hO7
              have HR7 := Lib.hid (KU.row hk7 HR.out (by decide))
              have HB7 := Lib.hid (HB2.out.trans (hk7.toBelow hsz))
              clear hO7 hk7 c1 gb
              go_wp2_with fail
              refine ⟨⟨k + 1, hlt, rfl, by rw [outN, ← num4]; exact HO7.out, HR7.out, HB7.out, HB7.out.size⟩, ?_⟩
              show 8 - ((k : Int) + 1).toNat < 8 - (k : Int).toNat
              omega
            · obtain rfl : k = 8 := by omega
              have hs : ∀ W, W = wr → (convert 47 9 u7).run Tryz.prog W = .ok (.string (outN F 8)) W := fun W h => h ▸ run_str HO.out
              go_wp2_with fail
              go_ret
              refine ⟨?_, HB.out.trans (HB2.out.mono (Nat.le_trans hB HB.out.size))⟩
              rw [shaB, ← HN.out, HFe.out]
              rfl

/-- the first k of some texts, one behind the other. -/
def catN (ps : Nat → ByteArray) : Nat → ByteArray
  | 0 => ⟨#[]⟩
  | k + 1 => catN ps k ++ ps k
theorem catN_le (ps : Nat → ByteArray) : ∀ {k n : Nat}, k ≤ n → (catN ps k).size ≤ (catN ps n).size := by
  intro k n h
  induction h with
  | refl => exact Nat.le_refl _
  | step _ ih => rw [catN, ByteArray.size_append]; omega

/-- a slice of texts. -/
def Strs (w : World) (ad : Option Addr) (n : Nat) (ps : Nat → ByteArray) : Prop :=
  ∀ i, i < n → ∃ pb po, ad = some ⟨pb, po, none⟩ ∧ w.cell? ⟨pb, po + i, none⟩ = some (.string (ps i))

def SumRel1 (ps : Nat → ByteArray) (n : Nat) (w : World) (t i : Value) (wr : World) : Prop :=
  ∃ k : Nat, k ≤ n ∧ i = .int .i64 k ∧ t = .int .i64 (96 + (catN ps k).size) ∧ wr = w

theorem Strs.below {w w' : World} {ad : Option Addr} {n : Nat} {ps : Nat → ByteArray} (h : Strs w ad n ps) (hb : Below w.heap.size w w') : Strs w' ad n ps := by
  intro i hi
  obtain ⟨pb, po, h1, h2⟩ := h i hi
  exact ⟨pb, po, h1, (hb.cell (p := ⟨pb, po + i, none⟩) (cell_lt h2)).trans h2⟩
def SumRel2 (ps : Nat → ByteArray) (n : Nat) (ad : Option Addr) (w : World) (v i : Value) (wr : World) : Prop :=
  ∃ k : Nat, k ≤ n ∧ i = .int .i64 k ∧ OwnB wr w.heap.size v (catN ps k) ∧ Strs wr ad n ps ∧ Below w.heap.size w wr

set_option maxRecDepth 100000 in
set_option maxHeartbeats 1000000 in
theorem sum_any (ad : Option Addr) (n c : Nat) (ps : Nat → ByteArray) (w : World) (hs : Strs w ad n ps) (hn : n ≤ 1000) (hz : (catN ps n).size ≤ 70368744160000) :
    Calls Tryz.prog 77 #[.slice ad n c] w fun e w' => e = .returned (.string (shaB (catN ps n))) ∧ Below w.heap.size w w' := by
  have Hs := Lib.hid hs
  clear hs
  go_enter Tryz.func77, Tryz.ntmps77
  go_wp2_with fail
  go_loopw [3, 11] (fun t i wr => SumRel1 ps n w t i wr) (fun _ i _ => n - (intOf i).toNat)
  case atStart => exact ⟨0, Nat.zero_le _, rfl, rfl, rfl⟩
  case round =>
    obtain ⟨k, hk, rfl, rfl, rfl⟩ := hrel
    by_cases hlt : k < n
    · obtain ⟨pb, po, rfl, hcell⟩ := Hs.out k hlt
      have hle := catN_le ps (show k + 1 ≤ n by omega)
      have hle2 := catN_le ps (show k ≤ n by omega)
      have hsz : (catN ps (k + 1)).size = (catN ps k).size + (ps k).size := by rw [catN, ByteArray.size_append]
      rw [hsz] at hle
      have Hsz := Lib.hid hsz
      clear hsz
      go_wp2_with fail
      refine ⟨⟨k + 1, hlt, rfl, ?_, rfl⟩, ?_⟩
      · rw [Hsz.out]; congr 1; omega
      · show n - ((k : Int) + 1).toNat < n - (k : Int).toNat
        omega
    · obtain rfl : k = n := by omega
      obtain ⟨i0, hi, hz0, hz1, hz2⟩ := info_parts infoU8
      have HI := Lib.hid hz2
      clear hz2
      go_wp2_with (first | (at_make; refine wpList_make_own _ rfl _ _ 47 rfl wr.heap.size 5 i0 (.int .u8 0) 1 Tryz.underlying47 hi hz0 hz1 _ _ _ (96 + (catN ps k).size) rfl rfl (by omega) ?_ ?_ ?_ ?_) | fail)
      · rw [HI.out]; omega
      · unfold maxLen; omega
      · omega
      intro w1 ho hg
      have HO := Lib.hid (show OwnB w1 wr.heap.size (.slice (some ⟨wr.heap.size, 0, none⟩) 0 (96 + (catN ps k).size)) (⟨#[]⟩ : ByteArray) from ho)
      have HB := Lib.hid ((Below.refl wr.heap.size wr).grown hg (Nat.le_refl _) (fun _ h => by cases h))
      clear ho hg hi hz0 hz1 HI
      generalize hwo : wr = wo at HO HB Hs ⊢
      have Hwo := Lib.hid hwo
      clear hwo
      go_wp2_with fail
      go_loopw [6, 24] (fun v i wr => SumRel2 ps k ad wo v i wr) (fun _ i _ => k - (intOf i).toNat)
      case atStart => exact ⟨0, Nat.zero_le _, rfl, HO.out, Hs.out.below HB.out, HB.out⟩
      case round =>
        obtain ⟨j, hj, rfl, hO, hS, hbel⟩ := hrel
        have HO1 := Lib.hid hO
        have HS1 := Lib.hid hS
        have HB1 := Lib.hid hbel
        clear hO hS hbel HO HB
        by_cases hlt : j < k
        · obtain ⟨pb, po, rfl, hcell⟩ := HS1.out j hlt
          have hle := catN_le ps (show j + 1 ≤ k by omega)
          rw [catN, ByteArray.size_append] at hle
          go_wp2_with (first | (at_builtin; refine wpList_appS _ rfl rfl _ _ rfl wo.heap.size _ (catN ps j) rfl HO1.out (ps j) rfl ?_ ?_ ?_) | fail)
          · omega
          · exact HB1.out.size
          intro v2 w2 ho hg
          have HO2 := Lib.hid ho
          have HB2 := Lib.hid (HB1.out.grown hg HB1.out.size (fun g hg => (HO1.out.lt g hg).1))
          have HS2 := Lib.hid (Hs.out.below HB2.out)
          clear ho hg hcell
          go_wp2_with fail
          refine ⟨⟨j + 1, hlt, rfl, HO2.out, HS2.out, HB2.out⟩, ?_⟩
          show k - ((j : Int) + 1).toNat < k - (j : Int).toNat
          omega
        · obtain rfl : j = k := by omega
          go_wp2_with fail
          refine (hashed_any wo.heap.size u6 (catN ps j) wr HO1.out HB1.out.size (by omega)).mono ?_
          rintro e w3 ⟨rfl, hb3⟩
          have HB3 := Lib.hid (HB1.out.trans hb3)
          clear hb3
          go_wp2_with fail
          go_ret
          rw [Hwo.out]
          exact ⟨rfl, HB3.out⟩

set_option maxRecDepth 100000 in
set_option maxHeartbeats 1000000 in
theorem refsum_any (ad : Option Addr) (n c : Nat) (ps : Nat → ByteArray) (w : World) (hs : Strs w ad n ps) (hn : n ≤ 1000) (hz : (catN ps n).size ≤ 70368744160000) :
    Calls Tryz.prog 28 #[.slice ad n c] w fun e w' => e = .returned (.string (shaB (catN ps n))) ∧ Below w.heap.size w w' := by
  have Hs := Lib.hid hs
  clear hs
  go_enter Tryz.func28, Tryz.ntmps28
  go_wp2_with fail
  go_loopw [3, 4] (fun v i wr => SumRel2 ps n ad w v i wr) (fun _ i _ => n - (intOf i).toNat)
  case atStart => exact ⟨0, Nat.zero_le _, rfl, ownB_nil _ _, Hs.out, Below.refl _ _⟩
  case round =>
    obtain ⟨j, hj, rfl, hO, hS, hbel⟩ := hrel
    have HO1 := Lib.hid hO
    have HS1 := Lib.hid hS
    have HB1 := Lib.hid hbel
    clear hO hS hbel
    by_cases hlt : j < n
    · obtain ⟨pb, po, rfl, hcell⟩ := HS1.out j hlt
      have hle := catN_le ps (show j + 1 ≤ n by omega)
      rw [catN, ByteArray.size_append] at hle
      go_wp2_with (first | (at_builtin; refine wpList_appS _ rfl rfl _ _ rfl w.heap.size _ (catN ps j) rfl HO1.out (ps j) rfl ?_ ?_ ?_) | fail)
      · omega
      · exact HB1.out.size
      intro v2 w2 ho hg
      have HO2 := Lib.hid ho
      have HB2 := Lib.hid (HB1.out.grown hg HB1.out.size (fun g hg => (HO1.out.lt g hg).1))
      have HS2 := Lib.hid (Hs.out.below HB2.out)
      clear ho hg hcell
      go_wp2_with fail
      refine ⟨⟨j + 1, hlt, rfl, HO2.out, HS2.out, HB2.out⟩, ?_⟩
      show n - ((j : Int) + 1).toNat < n - (j : Int).toNat
      omega
    · obtain rfl : j = n := by omega
      go_wp2_with fail
      refine (hash_any w.heap.size _ (catN ps j) wr HO1.out HB1.out.size (by omega)).mono ?_
      rintro e w3 ⟨rfl, hb3⟩
      have HB3 := Lib.hid (HB1.out.trans hb3)
      clear hb3
      go_wp2_with fail
      go_ret
      exact ⟨rfl, HB3.out⟩

/-! leaves and nodes -/
def leafB (s : ByteArray) : ByteArray := shaB ((⟨#[0]⟩ : ByteArray) ++ s)
def nodeB (l r : ByteArray) : ByteArray := shaB ((⟨#[1]⟩ : ByteArray) ++ l ++ r)

def psL (l : List ByteArray) : Nat → ByteArray := fun i => l.getD i ⟨#[]⟩
end Go.Proofs.YtmejjphliaiamaaGreatDoor
