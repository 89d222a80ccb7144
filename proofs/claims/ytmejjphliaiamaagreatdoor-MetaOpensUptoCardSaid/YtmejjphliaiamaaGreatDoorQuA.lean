import Derived.Test.YtmejjphliaiamaaGreatDoorPkBE
import Derived.Test.YtmejjphliaiamaaGreatDoorPkE
import Derived.Test.YtmejjphliaiamaaGreatDoorPkR
import Derived.Test.YtmejjphliaiamaaGreatDoorHxP
set_option linter.unusedVariables false
set_option linter.unusedSimpArgs false
namespace Go.Proofs.YtmejjphliaiamaaGreatDoor
open Go Go.RowKit Go.Lib

/-! ### a hash, and eight bytes -/
theorem wr_bad {T : TypeId} {B b : Nat} {v : Value} {w : World} {s : ByteArray} {x : Bool} (h : Wr T B w b v (s, x)) (hT : T ≠ 5) (y : Bool) : Wr T B (w.setCell ⟨b, 1, none⟩ (.bool y)) b v (s, y) ∧ Kp (WrS b v) w (w.setCell ⟨b, 1, none⟩ (.bool y)) :=
  ⟨⟨blk_set h.blk _, h.own.of_block fun g hg => Below.heap_setCell _ _ _ _ (fun e => h.own.ne_blk h.blk hT (by rw [hg, e])), by show B ≤ _; simp [World.setCell]; exact h.size⟩, (Kp.refl _ w).setCell (p := ⟨b, 1, none⟩) (.inl (.inl rfl)) _⟩

set_option maxRecDepth 100000 in
set_option maxHeartbeats 1000000 in
theorem phash_any (B b : Nat) (v : Value) (q : WS) (s : ByteArray) (w : World) (hz : q.1.size + s.size ≤ 70368744100000) (h : Wr 75 B w b v q) :
    Calls Tryz.prog 115 #[.pointer (some ⟨b, 0, none⟩), .string s] w fun e w' => e = .returned (.tuple #[]) ∧ WrK 75 B b v w w' (pHash q s) := by
  obtain ⟨q, bad⟩ := q
  dsimp only at hz
  obtain ⟨bad2, hb2⟩ : ∃ bad2, bad2 = (bad || decide (s.size ≠ 32)) := ⟨_, rfl⟩
  have hp : pHash (q, bad) s = (q ++ s, bad2) := by rw [hb2]; rfl
  rw [hp]
  obtain ⟨hw2, hk2⟩ := wr_bad h (by decide) bad2
  have HW := Lib.hid hw2
  have HK := Lib.hid hk2
  have c0 : w.cell? ⟨b, 0, none⟩ = some v := cell_of_blk h.blk 0 rfl
  have c1 : w.cell? ⟨b, 1, none⟩ = some (.bool bad) := cell_of_blk h.blk 1 rfl
  have f1 := free_of_blk h.blk 1
  have hne : v.ownBlock ≠ some b := HW.out.own.ne_blk HW.out.blk (by decide)
  clear h hw2 hk2 hp
  cases bad with
  | true =>
    obtain rfl : bad2 = true := by rw [hb2]; rfl
    clear hb2
    go_enter Tryz.func115, Tryz.ntmps115
    go_wp2_with (first | (at_builtin; refine wpList_appSw _ rfl rfl _ _ rfl B _ q rfl HW.out.own s rfl ?_ HW.out.size ?_) | fail)
    · omega
    intro ao n' cap w2 ho hg hv
    have hb2 := grown_blk HW.out.blk hg hne
    have e0 : w2.cell? ⟨b, 0, none⟩ = some v := cell_of_blk hb2 0 rfl
    have e1 := blk_free hb2 0
    have HF := Lib.hid (wrk_app' HW.out (NewV.refl _ _) HK.out (by decide) ho hg (hv.imp id fun ⟨g, h1, h2⟩ => ⟨g, h1, by simpa [World.setCell] using h2⟩))
    clear ho hg hv hb2 hne
    go_wp2_with fail
    go_end0
    exact ⟨rfl, HF.out⟩
  | false =>
    by_cases h32 : (s.size : Int) = 32
    · have b1 : ((s.size : Int) == 32) = true := beq_iff_eq.2 h32
      have b2 : ((s.size : Int) != 32) = false := by rw [bne, b1]; rfl
      obtain rfl : bad2 = false := by rw [hb2]; simp; omega
      clear hb2
      go_enter Tryz.func115, Tryz.ntmps115
      go_wp2_with (first | (at_builtin; refine wpList_appSw _ rfl rfl _ _ rfl B _ q rfl HW.out.own s rfl ?_ HW.out.size ?_) | fail)
      · omega
      intro ao n' cap w2 ho hg hv
      have hb2 := grown_blk HW.out.blk hg hne
      have e0 : w2.cell? ⟨b, 0, none⟩ = some v := cell_of_blk hb2 0 rfl
      have e1 := blk_free hb2 0
      have HF := Lib.hid (wrk_app' HW.out (NewV.refl _ _) HK.out (by decide) ho hg (hv.imp id fun ⟨g, h1, h2⟩ => ⟨g, h1, by simpa [World.setCell] using h2⟩))
      clear ho hg hv hb2 hne
      go_wp2_with fail
      go_end0
      exact ⟨rfl, HF.out⟩
    · have b1 : ((s.size : Int) == 32) = false := beq_eq_false_iff_ne.2 h32
      have b2 : ((s.size : Int) != 32) = true := by rw [bne, b1]; rfl
      obtain rfl : bad2 = true := by rw [hb2]; simp; omega
      clear hb2
      go_enter Tryz.func115, Tryz.ntmps115
      go_wp2_with (first | (at_builtin; refine wpList_appSw _ rfl rfl _ _ rfl B _ q rfl HW.out.own s rfl ?_ HW.out.size ?_) | fail)
      · omega
      intro ao n' cap w2 ho hg hv
      have hb2 := grown_blk HW.out.blk hg hne
      have e0 : w2.cell? ⟨b, 0, none⟩ = some v := cell_of_blk hb2 0 rfl
      have e1 := blk_free hb2 0
      have HF := Lib.hid (wrk_app' HW.out (NewV.refl _ _) HK.out (by decide) ho hg (hv.imp id fun ⟨g, h1, h2⟩ => ⟨g, h1, by simpa [World.setCell] using h2⟩))
      clear ho hg hv hb2 hne
      go_wp2_with fail
      go_end0
      exact ⟨rfl, HF.out⟩

theorem rhash_any (b : Nat) (r : RS) (w : World) (hs : r.1.size ≤ 9223372036854775807) (h : Rdr 136 w b r) :
    Calls Tryz.prog 117 #[.pointer (some ⟨b, 0, none⟩)] w fun e w' => e = .returned (.string (rRaw r 32).1) ∧ RdP 136 b (rRaw r 32).2 w w' := by
  have HC := Lib.hid (raw_any b r 32 w hs h)
  clear h
  go_enter Tryz.func117, Tryz.ntmps117
  go_wp2_with fail
  refine HC.out.mono ?_
  rintro e w1 ⟨rfl, h1⟩
  have H1 := Lib.hid h1
  clear h1 HC
  go_wp2_with fail
  go_ret
  exact ⟨rfl, H1.out⟩

theorem rFail_size (r : RS) (e : Int) : (rFail r e).1 = r.1 := by unfold rFail; split <;> rfl
theorem rFail_bad (r : RS) {e : Int} (h : e ≠ 0) : (rFail r e).2 ≠ 0 := by
  unfold rFail
  split
  · exact h
  · assumption
set_option maxRecDepth 100000 in
set_option maxHeartbeats 1000000 in
theorem r8_any (b : Nat) (r : RS) (w : World) (hs : r.1.size ≤ 9223372036854775807) (h : Rdr 136 w b r) :
    Calls Tryz.prog 44 #[.pointer (some ⟨b, 0, none⟩)] w fun e w' => e = .returned (.int .i64 (rEight r).1) ∧ RdP 136 b (rEight r).2 w w' := by
  have HL := Lib.hid (left_any b r w h)
  have HFa := Lib.hid (fail_any b r 3 w h)
  have H := Lib.hid h
  obtain ⟨⟨c0, c1⟩, f0, f1⟩ := h.cells
  clear h c1 f0 f1
  unfold rEight
  by_cases h8 : (8 : Int) ≤ (r.1.size : Int)
  · have hix : ∀ W, (Instr.index 9 (.string r.1) (.int .i64 0)).run Tryz.prog W = .ok (.int .u8 (r.1.data.toList.getD 0 0).toNat) W := fun W => idx_str r.1 0 (by omega) W
    have d8 : decide (8 ≤ r.1.size) = true := decide_eq_true (by omega)
    have htb : topBad r.1 = decide (128 ≤ (r.1.data.toList.getD 0 0).toNat) := by unfold topBad; rw [d8]; rfl
    by_cases h128 : 128 ≤ (r.1.data.toList.getD 0 0).toNat
    · have ht : topBad r.1 = true := by rw [htb]; exact decide_eq_true h128
      have HN := Lib.hid (fun W (hW : Rdr 136 W b (rFail r 3)) => rn_any b (rFail r 3) 8 W (.inr ⟨rfl, fun _ => rFail_bad r (by decide)⟩) (by rw [rFail_size]; exact hs) hW)
      rw [if_pos ht]
      have hgt : (127 : Int) < ((r.1.data.toList.getD 0 0).toNat : Int) := by omega
      generalize r.1.data.toList.getD 0 0 = c at hix hgt
      clear ht htb h128 d8
      go_enter Tryz.func44, Tryz.ntmps44
      go_wp2_with fail
      refine HL.out.mono ?_
      rintro e w1 ⟨rfl, rfl⟩
      go_wp2_with fail
      refine HFa.out.mono ?_
      rintro e w2 ⟨rfl, h2⟩
      have H2 := Lib.hid h2
      clear h2
      go_wp2_with fail
      refine (HN.out _ H2.out.1).mono ?_
      rintro e w3 ⟨rfl, h3⟩
      have H3 := Lib.hid (H2.out.trans h3)
      clear h3
      go_wp2_with fail
      go_ret
      exact ⟨rfl, H3.out⟩
    · have ht : topBad r.1 = false := by rw [htb]; exact decide_eq_false h128
      have HN := Lib.hid (rn_any b r 8 w (.inr ⟨rfl, fun h => by rw [ht] at h; cases h⟩) hs H.out)
      rw [if_neg (by rw [ht]; decide)]
      have hgt : ¬ (127 : Int) < ((r.1.data.toList.getD 0 0).toNat : Int) := by omega
      generalize r.1.data.toList.getD 0 0 = c at hix hgt
      clear ht htb h128 d8
      go_enter Tryz.func44, Tryz.ntmps44
      go_wp2_with fail
      refine HL.out.mono ?_
      rintro e w1 ⟨rfl, rfl⟩
      go_wp2_with fail
      refine HN.out.mono ?_
      rintro e w3 ⟨rfl, h3⟩
      have H3 := Lib.hid h3
      clear h3
      go_wp2_with fail
      go_ret
      exact ⟨rfl, H3.out⟩
  · have ht : topBad r.1 = false := by unfold topBad; rw [decide_eq_false (show ¬ 8 ≤ r.1.size by omega)]; rfl
    have HN := Lib.hid (rn_any b r 8 w (.inr ⟨rfl, fun h => by rw [ht] at h; cases h⟩) hs H.out)
    rw [if_neg (by rw [ht]; decide)]
    clear ht
    go_enter Tryz.func44, Tryz.ntmps44
    go_wp2_with fail
    refine HL.out.mono ?_
    rintro e w1 ⟨rfl, rfl⟩
    go_wp2_with fail
    refine HN.out.mono ?_
    rintro e w3 ⟨rfl, h3⟩
    have H3 := Lib.hid h3
    clear h3
    go_wp2_with fail
    go_ret
    exact ⟨rfl, H3.out⟩
end Go.Proofs.YtmejjphliaiamaaGreatDoor
