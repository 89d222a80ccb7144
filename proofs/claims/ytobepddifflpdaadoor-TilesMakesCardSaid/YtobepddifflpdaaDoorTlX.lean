import Derived.Test.YtobepddifflpdaaDoorTlW
set_option linter.unusedVariables false
namespace Go.Proofs.YtobepddifflpdaaDoor
open Go Go.RowKit Go.Lib Go.Sort Go.Maps Go.WideMaps

theorem flat3 : ∀ (l : List (Nat × Nat × Nat)) (k c : Nat) (t : Nat × Nat × Nat), l[k]? = some t → c < 3 → (l.flatMap mkT)[3 * k + c]? = (mkT t)[c]?
  | [], k, c, t, h, _ => by simp at h
  | a :: l, 0, c, t, h, hc => by
    obtain rfl : a = t := by simpa using h
    rw [List.flatMap_cons, Nat.mul_zero, Nat.zero_add, List.getElem?_append_left (by show c < 3; exact hc)]
  | a :: l, k + 1, c, t, h, hc => by
    rw [List.flatMap_cons, List.getElem?_append_right (by show 3 ≤ _; omega)]
    have : 3 * (k + 1) + c - (mkT a).length = 3 * k + c := by show 3 * (k + 1) + c - 3 = _; omega
    rw [this]
    exact flat3 l k c t (by simpa using h) hc

def SmRel (w : World) (i : Value) (n : Nat) (wr : World) : Prop := ∃ k : Nat, k ≤ n ∧ i = .int .i64 k ∧ Below w.heap.size w wr

theorem cells_of_ownR {w : World} {base : Nat} {v : Value} {L : List (Nat × Nat × Nat)} (h : OwnR w base v L) : ∃ ao cap, v = .slice ao L.length cap ∧ L.length ≤ cap ∧ cap ≤ 9223372036854775807 ∧ ∀ k tl ti tx : Nat, L[k]? = some (tl, ti, tx) →
    ∃ g, ao = some ⟨g, 0, none⟩ ∧ w.cell? ⟨g, k * 3, none⟩ = some (.int .i64 tl) ∧ w.cell? ⟨g, k * 3 + 1, none⟩ = some (.int .i64 ti) ∧ w.cell? ⟨g, k * 3 + 2, none⟩ = some (.int .i64 tx) := by
  obtain ⟨ao, cap, hv, h1, h2, h3⟩ := OwnL.form h
  refine ⟨ao, cap, hv, h1, h2, fun k tl ti tx ht => ?_⟩
  have hk : k < L.length := (List.getElem?_eq_some_iff.1 ht).1
  obtain ⟨g, rfl, -, -, hc⟩ := h3 (by omega)
  have e0 := (hc (3 * k + 0) (by omega)).trans (flat3 L k 0 _ ht (by decide))
  have e1 := (hc (3 * k + 1) (by omega)).trans (flat3 L k 1 _ ht (by decide))
  have e2 := (hc (3 * k + 2) (by omega)).trans (flat3 L k 2 _ ht (by decide))
  rw [Nat.mul_comm 3 k] at e0 e1 e2
  exact ⟨g, rfl, e0, e1, e2⟩

theorem cells_of_ownT {w : World} {base : Nat} {v : Value} {L : List (Nat × Nat × Nat)} (h : OwnT w base v L) : ∃ ao cap, v = .slice ao L.length cap ∧ L.length ≤ cap ∧ cap ≤ 9223372036854775807 ∧ ∀ k tl ti tx : Nat, L[k]? = some (tl, ti, tx) →
    ∃ g, ao = some ⟨g, 0, none⟩ ∧ w.cell? ⟨g, k * 3, none⟩ = some (.int .i64 tl) ∧ w.cell? ⟨g, k * 3 + 1, none⟩ = some (.int .i64 ti) ∧ w.cell? ⟨g, k * 3 + 2, none⟩ = some (.int .i64 tx) := by
  obtain ⟨ao, cap, hv, h1, h2, h3⟩ := OwnL.form h
  refine ⟨ao, cap, hv, h1, h2, fun k tl ti tx ht => ?_⟩
  have hk : k < L.length := (List.getElem?_eq_some_iff.1 ht).1
  obtain ⟨g, rfl, -, -, hc⟩ := h3 (by omega)
  have e0 := (hc (3 * k + 0) (by omega)).trans (flat3 L k 0 _ ht (by decide))
  have e1 := (hc (3 * k + 1) (by omega)).trans (flat3 L k 1 _ ht (by decide))
  have e2 := (hc (3 * k + 2) (by omega)).trans (flat3 L k 2 _ ht (by decide))
  rw [Nat.mul_comm 3 k] at e0 e1 e2
  exact ⟨g, rfl, e0, e1, e2⟩

set_option maxRecDepth 100000 in
set_option maxHeartbeats 1000000 in
theorem same_any (v1 v2 : Value) (b1 b2 : Nat) (L : List (Nat × Nat × Nat)) (w : World) (h1 : OwnR w b1 v1 L) (h2 : OwnR w b2 v2 L) (hlen : L.length ≤ 2000) :
    Calls Tryd.prog 15 #[v1, v2] w fun e w' => e = .returned (.bool true) ∧ Below w.heap.size w w' := by
  obtain ⟨ao, cp, rfl, hc1, hc2, hq⟩ := cells_of_ownR h1
  obtain ⟨ao', cp', rfl, hc1', hc2', hq'⟩ := cells_of_ownR h2
  have HQ := Lib.hid hq
  have HQ' := Lib.hid hq'
  clear h1 h2 hq hq'
  go_enter Tryd.func15, Tryd.ntmps15
  go_wp2_with fail
  go_loopw [5] (fun i wr => SmRel w i L.length wr) (fun i _ => L.length - (RowKit.intOf i).toNat)
  case atStart => exact ⟨0, Nat.zero_le _, rfl, Below.refl _ _⟩
  case round =>
    obtain ⟨k, hk, rfl, hbel⟩ := hrel
    have HB := Lib.hid hbel
    clear hbel
    by_cases hlt : k < L.length
    · obtain ⟨⟨tl, ti, tx⟩, ht⟩ : ∃ t, L[k]? = some t := ⟨_, List.getElem?_eq_getElem hlt⟩
      obtain ⟨g, rfl, q0, q1, q2⟩ := HQ.out k tl ti tx ht
      obtain ⟨g', rfl, r0, r1, r2⟩ := HQ'.out k tl ti tx ht
      have k0 := cell_regrown ((HB.out.cell (p := ⟨g, k * 3, none⟩) (cell_lt q0)).trans q0)
      have k1 := cell_regrown ((HB.out.cell (p := ⟨g, k * 3 + 1, none⟩) (cell_lt q1)).trans q1)
      have k2 := cell_regrown ((HB.out.cell (p := ⟨g, k * 3 + 2, none⟩) (cell_lt q2)).trans q2)
      have l0 := cell_regrown ((HB.out.cell (p := ⟨g', k * 3, none⟩) (cell_lt r0)).trans r0)
      have l1 := cell_regrown ((HB.out.cell (p := ⟨g', k * 3 + 1, none⟩) (cell_lt r1)).trans r1)
      have l2 := cell_regrown ((HB.out.cell (p := ⟨g', k * 3 + 2, none⟩) (cell_lt r2)).trans r2)
      clear ht q0 q1 q2 r0 r1 r2
      go_wp2_with fail
      refine wp_region_quiet_below (by kernel_rfl) (by kernel_rfl) ?_
      repeat quiet_step (fail)
      refine wpQuiet_nil ?_
      intro w2 hw2
      obtain ⟨⟨dq, osq⟩, hw''⟩ := hw2
      have hb2 : Below wr.heap.size wr w2 := by rw [hw'']; exact below_regrown wr dq osq
      have HB2 := Lib.hid (HB.out.trans (hb2.mono HB.out.size))
      clear hw'' hb2 k0 k1 k2 l0 l1 l2
      go_wp2_with fail
      refine ⟨⟨k + 1, hlt, rfl, HB2.out⟩, ?_⟩
      show L.length - ((k : Int) + 1).toNat < L.length - (k : Int).toNat
      omega
    · obtain rfl : k = L.length := by omega
      go_wp2_with fail
      go_ret
      exact ⟨rfl, HB.out⟩

theorem tile_cells {w : World} {b : Nat} {l i x : Int} {T : TypeId} {f : Nat × Nat} (h : w.heap[b]? = some (.cells #[.int .i64 l, .int .i64 i, .int .i64 x] T f)) :
    w.cell? ⟨b, 0, none⟩ = some (.int .i64 l) ∧ w.cell? ⟨b, 1, none⟩ = some (.int .i64 i) ∧ w.cell? ⟨b, 2, none⟩ = some (.int .i64 x) := ⟨cell_of_blk h 0 rfl, cell_of_blk h 1 rfl, cell_of_blk h 2 rfl⟩
def TmRel (L : List (Nat × Nat × Nat)) (w : World) (r i : Value) (wr : World) : Prop :=
  ∃ k : Nat, k ≤ L.length ∧ i = .int .i64 k ∧ OwnR wr w.heap.size r (L.take k) ∧ Below w.heap.size w wr

theorem allI_length (n : Int) : (allI n).length ≤ 2000 := by
  unfold allI
  split
  · exact allT_length _ (by omega)
  · exact Nat.zero_le _

set_option maxRecDepth 100000 in
set_option maxHeartbeats 1000000 in
theorem makes_any (n z l i x : Int) (w : World) (hT : Tabs w) (hz0 : 0 ≤ z) (hz1 : z ≤ 255) :
    Calls Tryd.prog 3 #[.int .i64 n, .int .u8 z, .agg #[.int .i64 l, .int .i64 i, .int .i64 x]] w fun e w' => e = .returned (.bool true) ∧ Below w.heap.size w w' := by
  obtain ⟨i0, hi, hz0', hz1', hz2⟩ := info_parts infoR
  have HI2 := Lib.hid hz2
  have HT := Lib.hid hT
  clear hz2 hT
  go_enter Tryd.func3, Tryd.ntmps3
  go_wp2_with fail
  have hb1 : Below w.heap.size w (w.alloc (.cells #[.int .i64 l, .int .i64 i, .int .i64 x] 23)) := (Below.refl _ _).alloc (Nat.le_refl _) _
  have hblk := blk_new w (.cells #[.int .i64 l, .int .i64 i, .int .i64 x] 23)
  have hsz : w.heap.size + 1 = (w.alloc (.cells #[.int .i64 l, .int .i64 i, .int .i64 x] 23)).heap.size := (size_alloc _ _).symm
  generalize w.alloc (.cells #[.int .i64 l, .int .i64 i, .int .i64 x] 23) = w1 at hb1 hblk hsz ⊢
  refine (reads_any w1 (HT.out.below hb1)).mono ?_
  rintro e w2 ⟨rfl, hb2⟩
  have HB2 := Lib.hid (hb1.trans (hb2.mono hb1.size))
  have HBlk2 := Lib.hid (blk_later hblk hb2)
  have hsz2 := hb2.size
  clear hb1 hblk hb2
  go_wp2_with fail
  refine (all_any n w2).mono ?_
  rintro e w3 ⟨v, rfl, hov, hb3⟩
  obtain ⟨ao, cap, rfl, hcap, hcap2, hform⟩ := cells_of_ownT hov
  have hlen := allI_length n
  have HB3 := Lib.hid (HB2.out.trans (hb3.mono HB2.out.size))
  have HBlk3 := Lib.hid (blk_later HBlk2.out hb3)
  have HF := Lib.hid hform
  have hsz3 := hb3.size
  clear hb3 hform hov
  go_wp2_with fail
  generalize hL : allI n = L at *
  go_loopw [7, 20] (fun r i wr => TmRel L w3 r i wr) (fun _ i _ => L.length - (RowKit.intOf i).toNat)
  case atStart => exact ⟨0, Nat.zero_le _, rfl, ownL_nil _ _, Below.refl _ _⟩
  case round =>
    obtain ⟨k, hk, rfl, hown, hbel⟩ := hrel
    have HO := Lib.hid hown
    have HB := Lib.hid hbel
    clear hown hbel
    by_cases hlt : k < L.length
    · obtain ⟨⟨tl, ti, tx⟩, ht⟩ : ∃ t, L[k]? = some t := ⟨_, List.getElem?_eq_getElem hlt⟩
      obtain ⟨g, rfl, q0, q1, q2⟩ := HF.out k tl ti tx ht
      have r0 := (HB.out.cell (p := ⟨g, k * 3, none⟩) (cell_lt q0)).trans q0
      have r1 := (HB.out.cell (p := ⟨g, k * 3 + 1, none⟩) (cell_lt q1)).trans q1
      have r2 := (HB.out.cell (p := ⟨g, k * 3 + 2, none⟩) (cell_lt q2)).trans q2
      have HTK := Lib.hid ht
      clear q0 q1 q2 ht
      have hB2 : ∀ o, Below w3.heap.size w3 (wr.alloc o) := fun o => HB.out.alloc HB.out.size o
      have HO2 : ∀ o o', OwnR ((wr.alloc o).alloc o') w3.heap.size _ (L.take k) := fun o o' => (OwnL.alloc (OwnL.alloc HO.out o) o')
      go_wp2_with (first | (at_builtin; refine wpList_appL _ rfl _ _ 25 rfl i0 (.agg #[.int .i64 0, .int .i64 0, .int .i64 0]) 24 Tryd.underlying25 hi hz0' hz1' HI2.out rfl (by decide) w3.heap.size _ _ rfl (HO2 _ _) (tl, ti, tx) rfl ⟨(wr.alloc (.cells #[.int .i64 tl, .int .i64 ti, .int .i64 tx] 23)).heap.size, 0, none⟩ 1 ?_ (mkT_cells _ tl ti tx _) (mkT_one _) ?_ (by decide) ?_ ?_) | fail)
      · rw [size_alloc]; rfl
      · rw [List.length_take]; omega
      · rw [size_alloc, size_alloc]; have := HB.out.size; omega
      intro v4 w4 ho4 hg4 _
      have hB4 : Below w3.heap.size w3 w4 := ((hB2 _).alloc (by rw [size_alloc]; have := HB.out.size; omega) _).grown hg4 (by rw [size_alloc, size_alloc]; have := HB.out.size; omega) (fun g hg => (HO.out.lt g hg).1)
      have HO4 := Lib.hid ho4
      have HB4 := Lib.hid hB4
      clear ho4 hg4 hB4 hB2 HO2 r0 r1 r2
      go_wp2_with fail
      refine ⟨⟨k + 1, hlt, rfl, ?_, HB4.out⟩, ?_⟩
      · have := HO4.out
        have ht : L.take (k + 1) = L.take k ++ [(tl, ti, tx)] := by rw [List.take_add_one, HTK.out]; rfl
        rw [ht]
        exact this
      · show L.length - ((k : Int) + 1).toNat < L.length - (k : Int).toNat
        omega
    · obtain rfl : k = L.length := by omega
      have hO := HO.out
      rw [List.take_length] at hO
      have HO1 := Lib.hid hO
      obtain ⟨m, hm⟩ : ∃ m : Nat, z % 100 = (m : Int) := ⟨(z % 100).toNat, by omega⟩
      have hm100 : m ≤ 99 := by omega
      have hblk := blk_later HBlk3.out HB.out
      have HT4 := Lib.hid (((HT.out.below HB3.out)).below HB.out)
      have HBlk4 := Lib.hid hblk
      have HB4 := Lib.hid (HB3.out.trans (HB.out.mono HB3.out.size))
      clear hO hblk HO
      go_wp2_with fail
      refine (leaves_any m wr (by omega)).mono ?_
      rintro e w5 ⟨v5, rfl, ho5, hb5⟩
      have hh := hash_of_own ho5
      obtain ⟨c0, c1, c2⟩ := tile_cells (blk_later HBlk4.out hb5)
      have HH := Lib.hid hh
      have HO5 := Lib.hid (OwnL.below HO1.out hb5)
      have HBlk5 := Lib.hid (blk_later HBlk4.out hb5)
      have HB5 := Lib.hid (HB4.out.trans (hb5.mono HB4.out.size))
      clear hb5 hh ho5 hm
      go_wp2_with fail
      refine (make_all v5 m leafK l i x w5 (by omega) HH.out).mono ?_
      rintro e w6 ⟨rfl, hb6⟩
      obtain ⟨d0, d1, d2⟩ := tile_cells (blk_later HBlk5.out hb6)
      have HH6 := Lib.hid (HH.out.below hb6)
      have HO6 := Lib.hid (OwnL.below HO5.out hb6)
      have HB6 := Lib.hid (HB5.out.trans (hb6.mono HB5.out.size))
      clear hb6 c0 c1 c2
      go_wp2_with fail
      refine (refmake_all v5 m leafK l i x w6 (by omega) HH6.out).mono ?_
      rintro e w7 ⟨rfl, hb7⟩
      have HO7 := Lib.hid (OwnL.below HO6.out hb7)
      have HB7 := Lib.hid (HB6.out.trans (hb7.mono HB6.out.size))
      clear hb7 d0 d1 d2
      go_wp2_with fail
      refine (refall_any n w7).mono ?_
      rintro e w8 ⟨v8, rfl, ho8, hb8⟩
      rw [hL] at ho8
      have HO8 := Lib.hid (OwnL.below HO7.out hb8)
      have HR8 := Lib.hid ho8
      have HB8 := Lib.hid (HB7.out.trans (hb8.mono HB7.out.size))
      clear hb8 ho8
      go_wp2_with fail
      refine (same_any _ v8 _ _ L w8 HO8.out HR8.out hlen).mono ?_
      rintro e w9 ⟨rfl, hb9⟩
      have HB9 := Lib.hid (HB8.out.trans (hb9.mono HB8.out.size))
      have hself : ((makeR m leafK l i x).1.toList == (makeR m leafK l i x).1.toList) = true := beq_self_eq_true _
      clear hb9
      go_wp2_with fail
      go_ret
      exact ⟨rfl, HB9.out⟩
end Go.Proofs.YtobepddifflpdaaDoor
