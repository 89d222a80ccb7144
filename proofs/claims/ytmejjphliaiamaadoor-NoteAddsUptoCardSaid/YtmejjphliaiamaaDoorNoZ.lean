import Derived.Test.YtmejjphliaiamaaDoorNoY
set_option linter.unusedVariables false
set_option linter.unusedSimpArgs false
namespace Go.Proofs.YtmejjphliaiamaaDoor
open Go Go.RowKit Go.Lib

/-! ### the law of notes' bytes -/
theorem fmtV_cases (t : ByteArray) (L : List SigT) : fmtV t L = (⟨#[]⟩, 1) ∨ ∃ s, fmtV t L = (s, 0) ∧ s.size ≤ t.size + 60000 := by
  cases hg : noteG t L with
  | false => exact .inl (fmtV_bad hg)
  | true =>
    refine .inr ⟨_, fmtV_good hg, ?_⟩
    have h1 := good_sigs hg
    have h2 := sigsT_le L h1.2
    rw [ByteArray.size_append, ByteArray.size_append]
    have : nlB.size = 1 := rfl
    omega
structure SpRow (g n : Nat) (w wr : World) : Prop where
  row : ∃ cur, wr.heap[g]? = some (.cells cur 39 (0, 0)) ∧ n * 2 ≤ cur.size
  kp : Kp (fun k => k = g) w wr
theorem SpRow.cell {g n : Nat} {w wr : World} (h : SpRow g n w wr) {k : Nat} (hk : k < n) : (∃ u, wr.cell? ⟨g, k * 2, none⟩ = some u) ∧ wr.frozen? ⟨g, k * 2, none⟩ = false := by
  obtain ⟨cur, hb, hs⟩ := h.row
  refine ⟨⟨cur[k * 2]'(by omega), cell_of_blk hb (k * 2) (Array.getElem?_eq_getElem (by omega))⟩, free_of_blk hb _⟩
theorem SpRow.set {g n : Nat} {w wr : World} (h : SpRow g n w wr) (k : Nat) (u : Value) : SpRow g n w (wr.setCell ⟨g, k, none⟩ u) := by
  obtain ⟨cur, hb, hs⟩ := h.row
  exact ⟨⟨_, blk_set hb u, by rw [Array.size_setIfInBounds]; exact hs⟩, h.kp.setCell (p := ⟨g, k, none⟩) (.inl rfl) _⟩
def SpRel (L : List SigT) (g : Nat) (w : World) (i : Value) (wr : World) : Prop := ∃ k : Nat, k ≤ L.length ∧ i = .int .i64 k ∧ (0 < L.length → SpRow g L.length w wr) ∧ Kp (fun k => k = g) w wr
theorem OwnG.row {w : World} {base : Nat} {v : Value} {L : List SigT} (h : OwnG w base v L) : ∃ ad cap g, v = .slice ad L.length cap ∧ SigsM w ad L ∧ (0 < L.length → ad = some ⟨g, 0, none⟩ ∧ SpRow g L.length w w) ∧ base ≤ g := by
  obtain ⟨ad, cap, hv, hs⟩ := h.sigs
  rcases h.2 with ⟨hv2, h0⟩ | ⟨g, cap2, cur, hv2, hb, hh, hc, hm, hz, ht⟩
  · exact ⟨ad, cap, base, hv, hs, fun hp => by omega, Nat.le_refl _⟩
  · refine ⟨ad, cap, g, hv, hs, fun _ => ?_, hb⟩
    rw [hv] at hv2
    cases hv2
    exact ⟨rfl, ⟨cur, hh, by rw [hz]; omega⟩, Kp.refl _ _⟩

set_option maxRecDepth 100000 in
set_option maxHeartbeats 2000000 in
theorem formats_any (t : ByteArray) (ad : Option Addr) (L : List SigT) (c : Nat) (w : World) (ht : t.size ≤ 2097152) (hn : L.length ≤ 2097152) (hL : SigsM w ad L) (hV : VarsV w) :
    Calls Tryd.prog 4 #[.agg #[.string t, .slice ad L.length c]] w fun e w' => e = .returned (.bool true) ∧ Below w.heap.size w w' := by
  have HV := Lib.hid hV
  have HL := Lib.hid hL
  have HTe := Lib.hid (fun W hW => tells_any W hW)
  have HF := Lib.hid (fun W h1 h2 => format_any t ad L c W (by omega) (by omega) h1 h2)
  have HG := Lib.hid (fun W h1 => rformat_any t ad L c W (by omega) (by omega) h1)
  have hfc := fmtV_cases t L
  clear hV hL
  have hk0 : Below w.heap.size w (w.alloc (.cells #[.string t, .slice ad L.length c] 33)) := (Below.refl _ _).alloc (Nat.le_refl _) _
  have HK0 := Lib.hid hk0
  clear hk0
  rcases hfc with hq | ⟨s, hq, hsz⟩
  · rw [hq] at HF HG
    clear hq
    go_enter Tryd.func4, Tryd.ntmps4
    go_wp2_with fail
    refine (HTe.out _ (HV.out.below HK0.out)).mono ?_
    rintro e w1 ⟨rfl, hb⟩
    have HN1 := Lib.hid (show NtAt w1 w.heap.size t (.slice ad L.length c) from blk_later (blk_new _ _) hb)
    have HK1 := Lib.hid (HK0.out.trans (hb.mono HK0.out.size))
    clear hb HK0
    have n0 := cell_of_blk HN1.out 0 (v := .string t) rfl
    have n1 := cell_of_blk HN1.out 1 (v := .slice ad L.length c) rfl
    go_wp2_with fail
    refine (HF.out _ (HL.out.below HK1.out) (HV.out.below HK1.out)).mono ?_
    rintro e w2 ⟨rfl, hb⟩
    have HN2 := Lib.hid (show NtAt w2 w.heap.size t (.slice ad L.length c) from blk_later HN1.out hb)
    have HK2 := Lib.hid (HK1.out.trans (hb.mono HK1.out.size))
    clear hb n0 n1
    have n0 := cell_of_blk HN2.out 0 (v := .string t) rfl
    have n1 := cell_of_blk HN2.out 1 (v := .slice ad L.length c) rfl
    go_wp2_with fail
    refine (HG.out _ (HL.out.below HK2.out)).mono ?_
    rintro e w3 ⟨rfl, hb⟩
    have HK3 := Lib.hid (HK2.out.trans (hb.mono HK2.out.size))
    clear hb n0 n1
    go_wp2_with fail
    go_ret
    exact ⟨rfl, HK3.out⟩
  · rw [hq] at HF HG
    have HP := Lib.hid (fun W hW => read_note s W (by omega) hW)
    have hb9 := readP_back hq
    unfold ReadPost at HP
    rw [hb9] at HP
    dsimp only at HP
    have hll : L.length ≤ 16 := ((noteG_iff t L).1 (fmtV_ok hq).1).1
    clear hq hb9
    go_enter Tryd.func4, Tryd.ntmps4
    go_wp2_with fail
    refine (HTe.out _ (HV.out.below HK0.out)).mono ?_
    rintro e w1 ⟨rfl, hb⟩
    have HN1 := Lib.hid (show NtAt w1 w.heap.size t (.slice ad L.length c) from blk_later (blk_new _ _) hb)
    have HK1 := Lib.hid (HK0.out.trans (hb.mono HK0.out.size))
    clear hb HK0
    have n0 := cell_of_blk HN1.out 0 (v := .string t) rfl
    have n1 := cell_of_blk HN1.out 1 (v := .slice ad L.length c) rfl
    go_wp2_with fail
    refine (HF.out _ (HL.out.below HK1.out) (HV.out.below HK1.out)).mono ?_
    rintro e w2 ⟨rfl, hb⟩
    have HN2 := Lib.hid (show NtAt w2 w.heap.size t (.slice ad L.length c) from blk_later HN1.out hb)
    have HK2 := Lib.hid (HK1.out.trans (hb.mono HK1.out.size))
    clear hb n0 n1
    have n0 := cell_of_blk HN2.out 0 (v := .string t) rfl
    have n1 := cell_of_blk HN2.out 1 (v := .slice ad L.length c) rfl
    go_wp2_with fail
    refine (HG.out _ (HL.out.below HK2.out)).mono ?_
    rintro e w3 ⟨rfl, hb⟩
    have HN3 := Lib.hid (show NtAt w3 w.heap.size t (.slice ad L.length c) from blk_later HN2.out hb)
    have HK3 := Lib.hid (HK2.out.trans (hb.mono HK2.out.size))
    clear hb n0 n1 HN1 HN2 HK1 HK2
    have hss : (s.toList == s.toList) = true := beq_self_eq_true _
    go_wp2_with fail
    refine (HP.out _ (HV.out.below HK3.out)).mono ?_
    rintro e w4 ⟨v, rfl, hO, hb⟩
    obtain ⟨ad4, cap4, g, rfl, hs4, hrow, hg⟩ := OwnG.row hO
    have hk4 : Below w.heap.size w w4 := HK3.out.trans (hb.mono HK3.out.size)
    have hn4 : NtAt w4 w.heap.size t (.slice ad L.length c) := blk_later HN3.out hb
    have hlt3 := (Array.getElem?_eq_some_iff.1 HN3.out).1
    have hA : ∀ o, Below w4.heap.size w4 (w4.alloc o) := fun o => (Below.refl _ _).alloc (Nat.le_refl _) _
    have HN4 := Lib.hid hn4
    have HK4 := Lib.hid hk4
    have HS4 := Lib.hid hs4
    have HRw := Lib.hid hrow
    have hn5 : NtAt (w4.alloc (.cells #[.string t, .slice ad4 L.length cap4] 33)) w.heap.size t (.slice ad L.length c) := blk_alloc hn4 _
    have hm5 : NtAt (w4.alloc (.cells #[.string t, .slice ad4 L.length cap4] 33)) w4.heap.size t (.slice ad4 L.length cap4) := blk_new _ _
    have HSm := Lib.hid (same_any t t ad4 ad L L cap4 c (w4.alloc (.cells #[.string t, .slice ad4 L.length cap4] 33)) (by omega) (by omega) (hs4.below (hA _)) ((HL.out.below hk4).below (hA _)))
    rw [decide_eq_true rfl, decide_eq_true rfl] at HSm
    have n0 := cell_of_blk hn5 0 (v := .string t) rfl
    have n1 := cell_of_blk hn5 1 (v := .slice ad L.length c) rfl
    have m0 := cell_of_blk hm5 0 (v := .string t) rfl
    have m1 := cell_of_blk hm5 1 (v := .slice ad4 L.length cap4) rfl
    have HN5 := Lib.hid hn5
    have HM5 := Lib.hid hm5
    have HA5 := Lib.hid (hA (.cells #[.string t, .slice ad4 L.length cap4] 33))
    have hgw : w.heap.size < g := by omega
    clear hb hO hs4 hrow hk4 hn4 hA hn5 hm5 HN3 HK3
    go_wp2_with fail
    refine HSm.out.mono ?_
    rintro e w5 ⟨rfl, hb⟩
    have HN6 := Lib.hid (show NtAt w5 w.heap.size t (.slice ad L.length c) from blk_later HN5.out hb)
    have HM6 := Lib.hid (show NtAt w5 w4.heap.size t (.slice ad4 L.length cap4) from blk_later HM5.out hb)
    have HA6 := Lib.hid (HA5.out.trans (hb.mono HA5.out.size))
    clear hb n0 n1 m0 m1 HSm HN5 HM5 HA5
    have m1 := cell_of_blk HM6.out 1 (v := .slice ad4 L.length cap4) rfl
    go_wp2_with fail
    clear m1
    go_loopw [60] (fun i wr => SpRel L g w5 i wr) (fun i _ => L.length - (intOf i).toNat)
    case atStart =>
      refine ⟨0, Nat.zero_le _, rfl, fun hp => ?_, Kp.refl _ _⟩
      obtain ⟨cur, h1, h2⟩ := (HRw.out hp).2.row
      exact ⟨⟨cur, blk_later h1 HA6.out, h2⟩, Kp.refl _ _⟩
    case round =>
      obtain ⟨k, hk, rfl, hrw, hkp⟩ := hrel
      have hk5 : Below w.heap.size w wr := (HK4.out.trans (HA6.out.mono HK4.out.size)).trans (hkp.toBelow (by have := HK4.out.size; have := HA6.out.size; omega) (fun i hi => by omega))
      have hn5 : NtAt wr w.heap.size t (.slice ad L.length c) := blk_kp HN6.out hkp (by omega)
      have HKp := Lib.hid hkp
      have HRw2 := Lib.hid hrw
      have HK5 := Lib.hid hk5
      have HN5 := Lib.hid hn5
      clear hkp hrw hk5 hn5
      by_cases hlt : k < L.length
      · have hp : 0 < L.length := by omega
        obtain ⟨rfl, hr9⟩ := HRw.out hp
        have hg4 : g < w4.heap.size := by obtain ⟨cur, h1, -⟩ := hr9.row; exact (Array.getElem?_eq_some_iff.1 h1).1
        obtain ⟨⟨u, cu⟩, cf⟩ := (HRw2.out hp).cell hlt
        have hM5 : NtAt wr w4.heap.size t (.slice (some ⟨g, 0, none⟩) L.length cap4) := blk_kp HM6.out HKp.out (by omega)
        have m1 := cell_of_blk hM5 1 (v := .slice (some ⟨g, 0, none⟩) L.length cap4) rfl
        have hk0 : (0 : Int) ≤ (k : Int) := Int.natCast_nonneg _
        have hk1 : (k : Int) < (L.length : Int) := by omega
        clear hM5 hr9
        go_wp2_with fail
        refine ⟨⟨k + 1, hlt, rfl, fun _ => (HRw2.out hp).set _ _, HKp.out.setCell (p := ⟨g, k * 2, none⟩) (.inl rfl) _⟩, ?_⟩
        show L.length - ((k : Int) + 1).toNat < L.length - (k : Int).toNat
        omega
      · obtain rfl : k = L.length := by omega
        clear HN6 HM6 HA6 HS4 HRw HRw2 HKp
        go_wp2_with fail
        refine (HP.out _ (HV.out.below HK5.out)).mono ?_
        rintro e w7 ⟨v7, rfl, hO, hb⟩
        obtain ⟨ad7, cap7, rfl, hs7⟩ := OwnG.sigs hO
        have hk7 : Below w.heap.size w w7 := HK5.out.trans (hb.mono HK5.out.size)
        have hn7 : NtAt w7 w.heap.size t (.slice ad L.length c) := blk_later HN5.out hb
        have hA : ∀ o, Below w7.heap.size w7 (w7.alloc o) := fun o => (Below.refl _ _).alloc (Nat.le_refl _) _
        have hn8 : NtAt (w7.alloc (.cells #[.string t, .slice ad7 L.length cap7] 33)) w.heap.size t (.slice ad L.length c) := blk_alloc hn7 _
        have hm8 : NtAt (w7.alloc (.cells #[.string t, .slice ad7 L.length cap7] 33)) w7.heap.size t (.slice ad7 L.length cap7) := blk_new _ _
        have HSm := Lib.hid (same_any t t ad7 ad L L cap7 c (w7.alloc (.cells #[.string t, .slice ad7 L.length cap7] 33)) (by omega) (by omega) (hs7.below (hA _)) ((HL.out.below hk7).below (hA _)))
        rw [decide_eq_true rfl, decide_eq_true rfl] at HSm
        have HK8 := Lib.hid (hk7.alloc hk7.size (.cells #[.string t, .slice ad7 L.length cap7] 33))
        have n0 := cell_of_blk hn8 0 (v := .string t) rfl
        have n1 := cell_of_blk hn8 1 (v := .slice ad L.length c) rfl
        have m0 := cell_of_blk hm8 0 (v := .string t) rfl
        have m1 := cell_of_blk hm8 1 (v := .slice ad7 L.length cap7) rfl
        clear hb hO hs7 hk7 hn7 hA hn8 hm8
        go_wp2_with fail
        refine HSm.out.mono ?_
        rintro e w9 ⟨rfl, hb⟩
        have HK9 := Lib.hid (HK8.out.trans (hb.mono HK8.out.size))
        clear hb
        go_wp2_with fail
        go_ret
        exact ⟨rfl, HK9.out⟩
end Go.Proofs.YtmejjphliaiamaaDoor
