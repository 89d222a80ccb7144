import Derived.Test.YtobepddifflpdaaDoorShaF
set_option linter.unusedVariables false
namespace Go.Proofs.YtobepddifflpdaaDoor
open Go Go.RowKit Go.Lib

def zpad (n : Nat) : Nat := ((119 - (n : Int)) % 64).toNat
def padded (s : ByteArray) : ByteArray := s ++ oneB 128 ++ zerosB (zpad s.size) ++ numB (s.size * 8) 8
theorem numB_size (x : Int) (n : Nat) : (numB x n).size = n := numTop_size x n n
theorem padded_size (s : ByteArray) : (padded s).size = s.size + 9 + zpad s.size := by
  unfold padded
  rw [ByteArray.size_append, ByteArray.size_append, ByteArray.size_append, zerosB_size, numB_size, oneB_size]
  omega
theorem padded_div (s : ByteArray) : (padded s).size = 64 * ((padded s).size / 64) := by
  rw [padded_size]
  unfold zpad
  omega
def blkOf (p : ByteArray) (i : Nat) : Nat → Int := fun j => ((p.data.toList.getD (64 * i + j) 0).toNat : Int)
theorem blkOf_bd (p : ByteArray) (i j : Nat) : 0 ≤ blkOf p i j ∧ blkOf p i j < 256 := by
  unfold blkOf
  have := (p.data.toList.getD (64 * i + j) 0).toNat_lt
  omega
def stN (p : ByteArray) : Nat → Nat → Int
  | 0 => hF
  | i + 1 => comp kF (stN p i) (blkOf p i)
theorem stN_bd (p : ByteArray) : ∀ i j, 0 ≤ stN p i j ∧ stN p i j < 4294967296
  | 0, j => hF_bd j
  | i + 1, j => comp_bd kF (stN_bd p i) (blkOf p i) j
def shaB (s : ByteArray) : ByteArray := outN (stN (padded s) ((padded s).size / 64)) 8

theorem strCells_num8 (x : Int) : strCells (numB x 8) = [.int .u8 (x / 72057594037927936 % 256), .int .u8 (x / 281474976710656 % 256), .int .u8 (x / 1099511627776 % 256), .int .u8 (x / 4294967296 % 256), .int .u8 (x / 16777216 % 256), .int .u8 (x / 65536 % 256), .int .u8 (x / 256 % 256), .int .u8 (x % 256)] := by
  simp [numB, numTop, strCells_append, strCells_one]
  rfl

def lenOf : Value → Nat
  | .slice _ l _ => l
  | _ => 0
def HashRel (s : ByteArray) (N g cap h3 sb kb B : Nat) (w : World) (v : Value) (wr : World) : Prop :=
  ∃ i : Nat, i ≤ N ∧ (∃ p, v = .slice p (64 * (N - i)) (cap - 64 * i) ∧ (i < N → p = some ⟨g, 64 * i, none⟩)) ∧ wr.rowIs sb 156 8 (u32V (stN (padded s) i)) ∧ wr.rowIs kb 138 64 (u32V kF) ∧
    (∀ j, j < 64 * N → wr.cell? ⟨g, j, none⟩ = some (.int .u8 ((padded s).data.toList.getD j 0).toNat)) ∧ Below B w wr

set_option maxRecDepth 100000 in
set_option maxHeartbeats 1000000 in
theorem hashed_any (B : Nat) (v : Value) (s : ByteArray) (w : World) (hO : OwnB w B v s) (hB : B ≤ w.heap.size) (hz : s.size ≤ 70368744170000) :
    Calls Tryd.prog 85 #[v] w fun e w' => e = .returned (.string (shaB s)) ∧ Below B w w' := by
  obtain ⟨ad, c, rfl⟩ : ∃ ad c, v = .slice ad s.size c := by
    rcases hO.2 with ⟨h1, h2⟩ | ⟨g, cap, cur, h1, _⟩
    · exact ⟨none, 0, by rw [h1, h2]⟩
    · exact ⟨_, _, h1⟩
  have HO0 := Lib.hid hO
  clear hO
  have hzp : (119 - (s.size : Int)) % 64 = (zpad s.size : Int) := by unfold zpad; omega
  have hzs : zpad s.size < 64 := by unfold zpad; omega
  go_enter Tryd.func85, Tryd.ntmps85
  go_wp2_with (first | (at_builtin; refine wpList_appB _ rfl rfl _ _ rfl B _ s rfl (HO0.out.alloc _) (oneB 128) ⟨w.heap.size, 0, none⟩ 1 1 rfl rfl ?_ ?_ ?_ ?_) | fail)
  · exact cells_one (by decide)
  · rw [oneB_size]; omega
  · rw [size_alloc]; omega
  intro v1 w1 ho hg
  obtain ⟨hb1, hs1⟩ := below_app (Below.refl B w) HO0.out hB _ hg
  have HO1 := Lib.hid ho
  have HB1 := Lib.hid hb1
  clear ho hg hb1 HO0
  go_wp2_with (first | (at_builtin; refine wpList_appZ _ rfl rfl _ _ rfl B _ (s ++ oneB 128) rfl HO1.out (zpad s.size) rfl ?_ ?_ ?_ ?_) | fail)
  · omega
  · rw [ByteArray.size_append, oneB_size]; omega
  · exact hs1
  intro v2 w2 ho hg
  have hb2 := HB1.out.grown hg hs1 (fun g hg => (HO1.out.lt g hg).1)
  have hs2 := Nat.le_trans hs1 hg.size
  have HO2 := Lib.hid ho
  have HB2 := Lib.hid hb2
  clear ho hg hb2 HO1 HB1
  go_wp2_with (first | (at_builtin; refine wpList_appB _ rfl rfl _ _ rfl B _ (s ++ oneB 128 ++ zerosB (zpad s.size)) rfl (HO2.out.alloc _) (numB (s.size * 8) 8) ⟨w2.heap.size, 0, none⟩ 8 8 rfl rfl ?_ ?_ ?_ ?_) | fail)
  · refine cells_of_blk (blk_new _ _) ?_
    rw [strCells_num8, Int.emod_eq_of_lt (a := (s.size : Int) * 8 / 72057594037927936) (by omega) (by omega), Int.emod_eq_of_lt (a := (s.size : Int) * 8 / 281474976710656) (by omega) (by omega)]
  · rw [ByteArray.size_append, ByteArray.size_append, oneB_size, zerosB_size, numB_size]; omega
  · rw [size_alloc]; omega
  intro v3 w3 ho hg
  obtain ⟨hb3, hs3⟩ := below_app HB2.out HO2.out hs2 _ hg
  have HO3 := Lib.hid (show OwnB w3 B v3 (padded s) from ho)
  have HB3 := Lib.hid hb3
  clear ho hg hb3 HO2 HB2
  have hps := padded_size s
  obtain ⟨g, cap, rfl, hg1, hg2, hcap, hcell⟩ := HO3.out.form (by omega)
  have HC := Lib.hid hcell
  obtain ⟨N, hN⟩ : ∃ N, N = (padded s).size / 64 := ⟨_, rfl⟩
  have hN1 : (padded s).size = 64 * N := by rw [hN]; exact padded_div s
  have hN2 : 64 * N ≤ 70368744170200 := by omega
  have HN := Lib.hid hN
  have HN1 := Lib.hid hN1
  rw [hN1] at hcap ⊢
  clear hcell HO3 hps hzp hzs hN hN1
  go_wp2_with fail
  refine (begin_any w3).mono ?_
  rintro e w4 ⟨rfl, hb4⟩
  unfold begin8
  have HB4 := Lib.hid hb4
  clear hb4
  go_wp2_with fail
  refine (constants_any w4).mono ?_
  rintro e w5 ⟨rfl, h5⟩
  have H5 := Lib.hid h5
  clear h5
  go_wp2_with fail
  have h34 := Lib.hid HB4.out.size
  have h45 := Lib.hid (show w5.heap.size = w4.heap.size + 1 by rw [← H5.out]; simp)
  go_loopw [0] (fun v wr => HashRel s N g cap w3.heap.size w5.heap.size w4.heap.size B w v wr) (fun v _ => lenOf v)
  case atStart =>
    have h34 := h34.out
    have h45 := h45.out
    refine ⟨0, Nat.zero_le _, ⟨_, rfl, fun _ => rfl⟩, ?_, ?_, ?_, ?_⟩
    · refine World.rowIs_alloc w5 _ _ (u32V hF) ?_
      intro j hj
      have h8 : j = 0 ∨ j = 1 ∨ j = 2 ∨ j = 3 ∨ j = 4 ∨ j = 5 ∨ j = 6 ∨ j = 7 := by simp at hj; omega
      rcases h8 with rfl | rfl | rfl | rfl | rfl | rfl | rfl | rfl <;> rfl
    · have h := (k_row w4 138).alloc (.cells #[.int .u32 (hF 0), .int .u32 (hF 1), .int .u32 (hF 2), .int .u32 (hF 3), .int .u32 (hF 4), .int .u32 (hF 5), .int .u32 (hF 6), .int .u32 (hF 7)] 156)
      rw [H5.out] at h
      exact h
    · intro j hj
      refine cell_alloc ?_ _
      have h := cell_alloc ((HB4.out.cell (p := ⟨g, j, none⟩) hg2).trans (HC.out j (by rw [HN1.out]; exact hj))) (.cells kCells 138)
      rw [H5.out] at h
      exact h
    · refine Below.alloc ?_ (by omega) _
      rw [← H5.out]
      exact (HB3.out.trans (HB4.out.mono hs3)).alloc (by omega) _
  case round =>
    obtain ⟨i, hi, ⟨p, rfl, hp⟩, hS, hK, hMM, hbel⟩ := hrel
    have HS := Lib.hid hS
    have HK := Lib.hid hK
    have HM := Lib.hid hMM
    have HB := Lib.hid hbel
    clear hS hK hMM hbel HB4 H5
    by_cases hlt : i < N
    · obtain rfl := hp hlt
      clear hp
      obtain ⟨m, hm⟩ : ∃ m, N - i = m + 1 := ⟨N - i - 1, by omega⟩
      rw [hm]
      go_wp2_with fail
      refine (block_any w5.heap.size w4.heap.size g (64 * i) (cap - 64 * i) _ _ (stN (padded s) i) kF (blkOf (padded s) i) wr HS.out HK.out (fun j hj => HM.out (64 * i + j) (by omega)) (blkOf_bd _ _) (stN_bd _ _) (by omega)).mono ?_
      rintro e w6 ⟨rfl, hS6, hK6⟩
      have HS6 := Lib.hid hS6
      have HK6 := Lib.hid hK6
      clear hS6 hK6
      go_wp2_with fail
      have h34 := h34.out
      have h45 := h45.out
      have hkb : w4.heap.size < wr.heap.size := HK.out.lt
      refine ⟨⟨i + 1, hlt, ⟨if cap - 64 * i = 64 then some ⟨g, 64 * i, none⟩ else some ⟨g, 64 * (i + 1), none⟩, ?_, fun hl => if_neg (show ¬ cap - 64 * i = 64 by omega)⟩, HS6.out, HK.out.of_block (HK6.out.block _ hkb (show ¬ w4.heap.size = w5.heap.size by omega)), fun j hj => (HK6.out.cell (p := ⟨g, j, none⟩) (cell_lt (HM.out j hj)) (show ¬ g = _ by omega)).trans (HM.out j hj), ?_⟩, ?_⟩
      · rw [show 64 * (m + 1) - 64 = 64 * (N - (i + 1)) by omega, show cap - 64 * i - 64 = cap - 64 * (i + 1) by omega]
        rfl
      · refine HB.out.trans (HK6.out.toBelow ?_ ?_)
        · exact Nat.le_trans hB HB.out.size
        · intro j hj
          have hj : j = w5.heap.size := hj
          omega
      · show 64 * (m + 1) - 64 < 64 * (m + 1)
        omega
    · obtain rfl : i = N := by omega
      have c0 : wr.cell? ⟨w5.heap.size, 0, none⟩ = some (.int .u32 (stN (padded s) i 0)) := HS.out.cell (by omega)
      have c1 : wr.cell? ⟨w5.heap.size, 1, none⟩ = some (.int .u32 (stN (padded s) i 1)) := HS.out.cell (by omega)
      have c2 : wr.cell? ⟨w5.heap.size, 2, none⟩ = some (.int .u32 (stN (padded s) i 2)) := HS.out.cell (by omega)
      have c3 : wr.cell? ⟨w5.heap.size, 3, none⟩ = some (.int .u32 (stN (padded s) i 3)) := HS.out.cell (by omega)
      have c4 : wr.cell? ⟨w5.heap.size, 4, none⟩ = some (.int .u32 (stN (padded s) i 4)) := HS.out.cell (by omega)
      have c5 : wr.cell? ⟨w5.heap.size, 5, none⟩ = some (.int .u32 (stN (padded s) i 5)) := HS.out.cell (by omega)
      have c6 : wr.cell? ⟨w5.heap.size, 6, none⟩ = some (.int .u32 (stN (padded s) i 6)) := HS.out.cell (by omega)
      have c7 : wr.cell? ⟨w5.heap.size, 7, none⟩ = some (.int .u32 (stN (padded s) i 7)) := HS.out.cell (by omega)
      go_wp2_with fail
      refine (text_any (stN (padded s) i) wr (stN_bd _ _)).mono ?_
      rintro e w6 ⟨rfl, hb6⟩
      have HB6 := Lib.hid hb6
      clear hb6 c0 c1 c2 c3 c4 c5 c6 c7
      go_wp2_with fail
      go_ret
      refine ⟨?_, HB.out.trans (HB6.out.mono (Nat.le_trans hB HB.out.size))⟩
      rw [shaB, ← HN.out]
      rfl
end Go.Proofs.YtobepddifflpdaaDoor
