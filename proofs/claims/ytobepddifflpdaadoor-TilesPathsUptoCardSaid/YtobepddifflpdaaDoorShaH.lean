import Derived.Test.YtobepddifflpdaaDoorShaG
set_option linter.unusedVariables false
namespace Go.Proofs.YtobepddifflpdaaDoor
open Go Go.RowKit Go.Lib

theorem zerosB_succ (n : Nat) : zerosB (n + 1) = zerosB n ++ oneB 0 := by
  refine WideShapes.bytes_inj ?_
  simp [zerosB, oneB, b8, List.replicate_succ']

theorem OwnB.sl {w : World} {B : Nat} {v : Value} {s : ByteArray} (h : OwnB w B v s) : ∃ ad c, v = .slice ad s.size c := by
  rcases h.2 with ⟨h1, h2⟩ | ⟨g, cap, cur, h1, _⟩
  · exact ⟨none, 0, by rw [h1, h2]⟩
  · exact ⟨_, _, h1⟩

theorem kInfo : (Tryd.prog.info? 138).map (·.size) = some kCells.size := by kernel_rfl
theorem kOne : kCells.all (·.oneCell') = true := by kernel_rfl
def BlksRel (s : ByteArray) (N g sb kb B : Nat) (w : World) (i : Value) (wr : World) : Prop :=
  ∃ m : Nat, m ≤ N ∧ i = .int .i64 (64 * (m : Int)) ∧ wr.rowIs sb 136 8 (u32V (stN (padded s) m)) ∧ wr.rowIs kb 138 64 (u32V kF) ∧
    (∀ j, j < 64 * N → wr.cell? ⟨g, j, none⟩ = some (.int .u8 ((padded s).data.toList.getD j 0).toNat)) ∧ Below B w wr
def OutRel (F : Nat → Int) (sb B : Nat) (w : World) (v i : Value) (wr : World) : Prop :=
  ∃ k : Nat, k ≤ 8 ∧ i = .int .i64 k ∧ OwnB wr B v (outN F k) ∧ wr.rowIs sb 136 8 (u32V F) ∧ Below B w wr ∧ B ≤ wr.heap.size

theorem kp_set8 (w : World) (b : Nat) (v0 v1 v2 v3 v4 v5 v6 v7 : Value) : Kp (fun i => i = b) w
    ((((((((w.setCell ⟨b, 0, none⟩ v0).setCell ⟨b, 1, none⟩ v1).setCell ⟨b, 2, none⟩ v2).setCell ⟨b, 3, none⟩ v3).setCell ⟨b, 4, none⟩ v4).setCell ⟨b, 5, none⟩ v5).setCell ⟨b, 6, none⟩ v6).setCell ⟨b, 7, none⟩ v7) :=
  ((((((((Kp.refl (fun i => i = b) w).setCell (p := ⟨b, 0, none⟩) (Or.inl rfl) v0).setCell (p := ⟨b, 1, none⟩) (Or.inl rfl) v1).setCell (p := ⟨b, 2, none⟩) (Or.inl rfl) v2).setCell (p := ⟨b, 3, none⟩) (Or.inl rfl) v3).setCell (p := ⟨b, 4, none⟩) (Or.inl rfl) v4).setCell (p := ⟨b, 5, none⟩) (Or.inl rfl) v5).setCell (p := ⟨b, 6, none⟩) (Or.inl rfl) v6).setCell (p := ⟨b, 7, none⟩) (Or.inl rfl) v7
theorem num4 (x : Int) : numB x 4 = word4 x := by
  refine WideShapes.bytes_inj ?_
  simp [numB, numTop, oneB, word4]

def PadRel (s : ByteArray) (B sb : Nat) (w : World) (v : Value) (wr : World) : Prop :=
  ∃ j : Nat, j ≤ zpad s.size ∧ OwnB wr B v (s ++ oneB 128 ++ zerosB j) ∧ KU B w wr ∧ B ≤ wr.heap.size ∧ wr.rowIs sb 136 8 (u32V hF)

set_option maxRecDepth 100000 in
set_option maxHeartbeats 1000000 in
theorem hash_any (B : Nat) (v : Value) (s : ByteArray) (w : World) (hO : OwnB w B v s) (hB : B ≤ w.heap.size) (hz : s.size ≤ 70368744170000) :
    Calls Tryd.prog 75 #[v] w fun e w' => e = .returned (.string (shaB s)) ∧ Below B w w' := by
  obtain ⟨ad, c, rfl⟩ := hO.sl
  have HO0 := Lib.hid hO
  clear hO
  go_enter Tryd.func75, Tryd.ntmps75
  go_wp2_with (first | (at_builtin; refine wpList_appB _ rfl rfl _ _ rfl B _ s rfl ((HO0.out.alloc _).alloc _) (oneB 128) ⟨w.heap.size + 1, 0, none⟩ 1 1 rfl rfl ?_ ?_ ?_ ?_) | fail)
  · exact cells_one' (by simp) (by decide)
  · rw [oneB_size]; omega
  · rw [size_alloc, size_alloc]; omega
  intro v1 w1 ho hg
  obtain ⟨hk1, hs1⟩ := ku_app ((KU.refl B w).alloc _) (HO0.out.alloc _) (by rw [size_alloc]; omega) _ hg
  have hrow : w1.rowIs w.heap.size 136 8 (u32V hF) := by
    refine KU.row (B := B) (KU.grown ((KU.refl B _)) ((HO0.out.alloc _).alloc _) hg) ?_ (by decide)
    refine World.rowIs.alloc ?_ _
    refine World.rowIs_alloc w _ _ (u32V hF) ?_
    intro j hj
    have h8 : j = 0 ∨ j = 1 ∨ j = 2 ∨ j = 3 ∨ j = 4 ∨ j = 5 ∨ j = 6 ∨ j = 7 := by simp at hj; omega
    rcases h8 with rfl | rfl | rfl | rfl | rfl | rfl | rfl | rfl <;> rfl
  have HO1 := Lib.hid ho
  have HK1 := Lib.hid hk1
  have HR1 := Lib.hid hrow
  clear ho hg hk1 HO0 hrow
  go_wp2_with fail
  go_loopw [0] (fun v wr => PadRel s B w.heap.size w v wr) (fun v _ => s.size + 1 + zpad s.size - lenOf v)
  case atStart => exact ⟨0, Nat.zero_le _, by rw [show zerosB 0 = (⟨#[]⟩ : ByteArray) from rfl, app_nil]; exact HO1.out, HK1.out, hs1, HR1.out⟩
  case round =>
    obtain ⟨j, hj, hO, hbel, hsz, hrow⟩ := hrel
    obtain ⟨ad2, c2, rfl⟩ := hO.sl
    have hlen : (s ++ oneB 128 ++ zerosB j).size = s.size + 1 + j := by rw [ByteArray.size_append, ByteArray.size_append, oneB_size, zerosB_size]
    rw [hlen] at hO ⊢
    have HO := Lib.hid hO
    have HB := Lib.hid hbel
    have HR := Lib.hid hrow
    have Hlen := Lib.hid hlen
    clear hO hbel HO1 HK1 HR1 hrow hlen
    by_cases hlt : j < zpad s.size
    · have hc : (((s.size : Int) + 1 + (j : Int)) % 64 != 56) = true := by
        rw [bne_iff_ne]
        unfold zpad at hlt
        omega
      go_wp2_with (first | (at_builtin; refine wpList_appB _ rfl rfl _ _ rfl B _ (s ++ oneB 128 ++ zerosB j) rfl (HO.out.alloc _) (oneB 0) ⟨wr.heap.size, 0, none⟩ 1 1 rfl rfl ?_ ?_ ?_ ?_) | fail)
      · exact cells_one (by decide)
      · rw [Hlen.out, oneB_size]; unfold zpad at hlt; omega
      · rw [size_alloc]; omega
      intro v2 w2 ho hg
      obtain ⟨hk2, hs2⟩ := ku_app HB.out HO.out hsz _ hg
      have hrow : w2.rowIs w.heap.size 136 8 (u32V hF) := KU.row (B := B) (KU.grown (KU.refl B _) (HO.out.alloc _) hg) (HR.out.alloc _) (by decide)
      obtain ⟨ad3, c3, rfl⟩ := ho.sl
      have HO2 := Lib.hid ho
      have HK2 := Lib.hid hk2
      have HR2 := Lib.hid hrow
      clear ho hg hk2 hrow
      go_wp2_with fail
      refine ⟨⟨j + 1, hlt, by rw [zerosB_succ, ← ByteArray.append_assoc]; exact HO2.out, HK2.out, hs2, HR2.out⟩, ?_⟩
      show s.size + 1 + zpad s.size - (s ++ oneB 128 ++ zerosB j ++ oneB 0).size < s.size + 1 + zpad s.size - (s.size + 1 + j)
      rw [ByteArray.size_append, Hlen.out, oneB_size]
      omega
    · obtain rfl : j = zpad s.size := by omega
      have hc : (((s.size : Int) + 1 + (zpad s.size : Int)) % 64 != 56) = false := by
        rw [bne_eq_false_iff_eq]
        unfold zpad
        omega
      go_wp2_with fail
      refine (number_any B _ _ ((s.size : Int) * 8) 8 wr HO.out (by omega) (by omega) hsz (by rw [Hlen.out]; unfold zpad; omega)).mono ?_
      rintro e w3 ⟨v3, rfl, hO3, hk3⟩
      have hrow := KU.row hk3 HR.out (by decide)
      have hs3 : B ≤ w3.heap.size := Nat.le_trans hsz hk3.size
      have HO3 := Lib.hid (show OwnB w3 B v3 (padded s) from hO3)
      have HK3 := Lib.hid ((HB.out.trans hk3).toBelow hB)
      have HR3 := Lib.hid hrow
      clear hO3 hk3 hrow HO HR HB hc
      have hps := padded_size s
      obtain ⟨g, cap, rfl, hg1, hg2, hcap, hcell⟩ := HO3.out.form (by omega)
      have HC := Lib.hid hcell
      have HU := Lib.hid (HO3.out.u8 g rfl)
      obtain ⟨N, hN⟩ : ∃ N, N = (padded s).size / 64 := ⟨_, rfl⟩
      have hN1 : (padded s).size = 64 * N := by rw [hN]; exact padded_div s
      have hzs : zpad s.size < 64 := by unfold zpad; omega
      have hN2 : 64 * N ≤ 70368744170200 := by omega
      have HN := Lib.hid hN
      have HN1 := Lib.hid hN1
      rw [hN1] at hcap ⊢
      clear hcell HO3 hps hzs hN hN1
      go_wp2_with fail
      refine (words_any w3).mono ?_
      rintro e w4 ⟨rfl, hb4⟩
      have HB4 := Lib.hid hb4
      clear hb4
      go_wp2_with (first | refine wpList_store_row rfl 138 _ _ rfl w4.heap.size kCells rfl rfl 138 _ (heap_alloc_last _ _) kInfo rfl kOne ?_ | fail)
      rw [World.setRow_alloc_new]
      have hsb : w.heap.size < w3.heap.size := HR3.out.lt
      have hk34 : w3.heap.size ≤ w4.heap.size := HB4.out.size
      have hne : g ≠ w.heap.size := by
        intro e
        obtain ⟨_, cs, fr, h2⟩ := HU.out
        obtain ⟨cs', h3, _⟩ := HR3.out
        rw [e, h3] at h2
        exact absurd h2 (by simp)
      have Hsb := Lib.hid hsb
      have Hk34 := Lib.hid hk34
      have Hne := Lib.hid hne
      clear hsb hk34 hne
      go_loopw [6] (fun i wr => BlksRel s N g w.heap.size w4.heap.size B w i wr) (fun i _ => 64 * N - (intOf i).toNat)
      case atStart =>
        have hk34 := Hk34.out
        refine ⟨0, Nat.zero_le _, by simp, (HR3.out.of_block (HB4.out.block _ HR3.out.lt)).alloc _, k_row w4 138, fun j hj => ?_, (HK3.out.trans (HB4.out.mono hs3)).alloc (by omega) _⟩
        exact cell_alloc ((HB4.out.cell (p := ⟨g, j, none⟩) hg2).trans (HC.out j (by rw [HN1.out]; exact hj))) _
      case round =>
        obtain ⟨m, hm, rfl, hS, hK, hMM, hbel⟩ := hrel
        have HS := Lib.hid hS
        have HK := Lib.hid hK
        have HM := Lib.hid hMM
        have HB := Lib.hid hbel
        clear hS hK hMM hbel HK3 HR3 HC HB4
        by_cases hlt : m < N
        · have c0 : wr.cell? ⟨w.heap.size, 0, none⟩ = some (.int .u32 (stN (padded s) m 0)) := HS.out.cell (by omega)
          have c1 : wr.cell? ⟨w.heap.size, 1, none⟩ = some (.int .u32 (stN (padded s) m 1)) := HS.out.cell (by omega)
          have c2 : wr.cell? ⟨w.heap.size, 2, none⟩ = some (.int .u32 (stN (padded s) m 2)) := HS.out.cell (by omega)
          have c3 : wr.cell? ⟨w.heap.size, 3, none⟩ = some (.int .u32 (stN (padded s) m 3)) := HS.out.cell (by omega)
          have c4 : wr.cell? ⟨w.heap.size, 4, none⟩ = some (.int .u32 (stN (padded s) m 4)) := HS.out.cell (by omega)
          have c5 : wr.cell? ⟨w.heap.size, 5, none⟩ = some (.int .u32 (stN (padded s) m 5)) := HS.out.cell (by omega)
          have c6 : wr.cell? ⟨w.heap.size, 6, none⟩ = some (.int .u32 (stN (padded s) m 6)) := HS.out.cell (by omega)
          have c7 : wr.cell? ⟨w.heap.size, 7, none⟩ = some (.int .u32 (stN (padded s) m 7)) := HS.out.cell (by omega)
          go_wp2_with fail
          have hcall := refblock_any w4.heap.size g 0 (64 * m) (64 * N) cap _ (stN (padded s) m) kF (blkOf (padded s) m) wr HK.out (fun j hj => by rw [Nat.zero_add]; exact HM.out (64 * m + j) (by omega)) (blkOf_bd _ _) (stN_bd _ _) (by omega) (by omega)
          rw [show ((64 * m : Nat) : Int) = 64 * (m : Int) by omega] at hcall
          refine hcall.mono ?_
          rintro e w6 ⟨rfl, hb6⟩
          unfold agg8
          have HS6 := Lib.hid (HS.out.of_block (hb6.block _ HS.out.lt))
          have HB6 := Lib.hid hb6
          clear hb6 c0 c1 c2 c3 c4 c5 c6 c7 hcall
          have d0 : w6.cell? ⟨w.heap.size, 0, none⟩ = some (.int .u32 (stN (padded s) m 0)) := HS6.out.cell (by omega)
          have d1 : w6.cell? ⟨w.heap.size, 1, none⟩ = some (.int .u32 (stN (padded s) m 1)) := HS6.out.cell (by omega)
          have d2 : w6.cell? ⟨w.heap.size, 2, none⟩ = some (.int .u32 (stN (padded s) m 2)) := HS6.out.cell (by omega)
          have d3 : w6.cell? ⟨w.heap.size, 3, none⟩ = some (.int .u32 (stN (padded s) m 3)) := HS6.out.cell (by omega)
          have d4 : w6.cell? ⟨w.heap.size, 4, none⟩ = some (.int .u32 (stN (padded s) m 4)) := HS6.out.cell (by omega)
          have d5 : w6.cell? ⟨w.heap.size, 5, none⟩ = some (.int .u32 (stN (padded s) m 5)) := HS6.out.cell (by omega)
          have d6 : w6.cell? ⟨w.heap.size, 6, none⟩ = some (.int .u32 (stN (padded s) m 6)) := HS6.out.cell (by omega)
          have d7 : w6.cell? ⟨w.heap.size, 7, none⟩ = some (.int .u32 (stN (padded s) m 7)) := HS6.out.cell (by omega)
          have fz : ∀ i, w6.frozen? ⟨w.heap.size, i, none⟩ = false := fun i => HS6.out.frozen i
          go_wp2_with fail
          have hsb := Hsb.out
          have hk34 := Hk34.out
          have hne := Hne.out
          have hkp := kp_set8 w6 w.heap.size (.int .u32 (comp kF (stN (padded s) m) (blkOf (padded s) m) 0)) (.int .u32 (comp kF (stN (padded s) m) (blkOf (padded s) m) 1)) (.int .u32 (comp kF (stN (padded s) m) (blkOf (padded s) m) 2)) (.int .u32 (comp kF (stN (padded s) m) (blkOf (padded s) m) 3))
            (.int .u32 (comp kF (stN (padded s) m) (blkOf (padded s) m) 4)) (.int .u32 (comp kF (stN (padded s) m) (blkOf (padded s) m) 5)) (.int .u32 (comp kF (stN (padded s) m) (blkOf (padded s) m) 6)) (.int .u32 (comp kF (stN (padded s) m) (blkOf (padded s) m) 7))
          have hK6 : w6.rowIs w4.heap.size 138 64 (u32V kF) := HK.out.of_block (HB6.out.block _ HK.out.lt)
          refine ⟨⟨m + 1, hlt, by congr 1, row8_set w6 _ _ _ _ _ _ _ _ _ _ _ _ HS6.out ⟨rfl, rfl, rfl, rfl, rfl, rfl, rfl, rfl⟩, hK6.of_block (hkp.block _ hK6.lt (show ¬ w4.heap.size = w.heap.size by omega)), fun j hj => ?_, ?_⟩, ?_⟩
          · have h1 := (HB6.out.cell (p := ⟨g, j, none⟩) (cell_lt (HM.out j hj))).trans (HM.out j hj)
            exact (hkp.cell (p := ⟨g, j, none⟩) (cell_lt h1) hne).trans h1
          · have h1 := HB.out.trans (HB6.out.mono (Nat.le_trans hB HB.out.size))
            refine h1.trans (hkp.toBelow (Nat.le_trans hB h1.size) ?_)
            intro j hj
            have hj : j = w.heap.size := hj
            omega
          · show 64 * N - (64 * (m : Int) + 64).toNat < 64 * N - (64 * (m : Int)).toNat
            omega
        · obtain rfl : m = N := by omega
          go_wp2_with fail
          clear HM HK
          generalize wr = wo at HS HB ⊢
          have HFb := Lib.hid (stN_bd (padded s) m)
          generalize hF : stN (padded s) m = F at HS HFb
          have HFe := Lib.hid hF
          clear hF
          go_loopw [7, 8] (fun v i wr => OutRel F w.heap.size wo.heap.size wo v i wr) (fun _ i _ => 8 - (intOf i).toNat)
          case atStart => exact ⟨0, Nat.zero_le _, rfl, ownB_nil _ _, HS.out, Below.refl _ _, Nat.le_refl _⟩
          case round =>
            obtain ⟨k, hk, rfl, hO, hR, hbel, hsz⟩ := hrel
            have HO := Lib.hid hO
            have HR := Lib.hid hR
            have HB2 := Lib.hid hbel
            clear hO hR hbel HS
            by_cases hlt : k < 8
            · have c1 : wr.cell? ⟨w.heap.size, k, none⟩ = some (.int .u32 (F k)) := HR.out.cell hlt
              have gb := HFb.out k
              go_wp2_with fail
              refine (number_any wo.heap.size u7 (outN F k) (F k) 4 wr HO.out (by omega) (by omega) hsz (by rw [outN_size]; omega)).mono ?_
              rintro e w7 ⟨v7, rfl, hO7, hk7⟩
              have HO7 := Lib.hid hO7
              have HR7 := Lib.hid (KU.row hk7 HR.out (by decide))
              have HB7 := Lib.hid (HB2.out.trans (hk7.toBelow hsz))
              clear hO7 hk7 c1 gb
              go_wp2_with fail
              refine ⟨⟨k + 1, hlt, rfl, by rw [outN, ← num4]; exact HO7.out, HR7.out, HB7.out, HB7.out.size⟩, ?_⟩
              show 8 - ((k : Int) + 1).toNat < 8 - (k : Int).toNat
              omega
            · obtain rfl : k = 8 := by omega
              have hs : ∀ W, W = wr → (convert 65 9 u7).run Tryd.prog W = .ok (.string (outN F 8)) W := fun W h => h ▸ run_str HO.out
              go_wp2_with fail
              go_ret
              refine ⟨?_, HB.out.trans (HB2.out.mono (Nat.le_trans hB HB.out.size))⟩
              rw [shaB, ← HN.out, HFe.out]
              rfl
end Go.Proofs.YtobepddifflpdaaDoor
