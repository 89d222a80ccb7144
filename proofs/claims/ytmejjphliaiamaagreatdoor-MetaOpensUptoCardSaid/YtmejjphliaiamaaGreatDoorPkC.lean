import Derived.Test.YtmejjphliaiamaaGreatDoorPkA
import Derived.Test.YtmejjphliaiamaaGreatDoorNu
import Derived.Deep.RegionLaw
set_option linter.unusedVariables false
namespace Go.Proofs.YtmejjphliaiamaaGreatDoor
open Go Go.RowKit Go.Lib

/-! ### the document's writer -/
set_option maxRecDepth 100000 in
theorem refNumber_any (x : Int) (n : Nat) (w : World) (hx : 0 ≤ x ∧ x < 18446744073709551616) (hn : n ≤ 8) :
    Calls Tryz.prog 67 #[.int .u64 x, .int .i64 n] w fun e w' => e = .returned (.string (numB x n)) ∧ Below w.heap.size w w' := by
  have HC := Lib.hid (number_any w.heap.size (.slice none 0 0) ⟨#[]⟩ x n w (ownB_nil _ _) hx hn (Nat.le_refl _) (by decide))
  go_enter Tryz.func67, Tryz.ntmps67
  go_wp2_with fail
  refine HC.out.mono ?_
  rintro e w1 ⟨v', rfl, ho, hk⟩
  have HO := Lib.hid ho
  have HB := Lib.hid (hk.toBelow (Nat.le_refl _))
  clear ho hk HC
  go_wp2_with fail
  rw [run_str HO.out]
  simp only [Result.andThen]
  rw [Oper.upon_value]
  go_wp2_with fail
  go_ret
  exact ⟨rfl, HB.out⟩

theorem rpow_256 (n : Nat) : (256 : Nat) ^ n = 2 ^ (8 * n) := by rw [Nat.pow_mul]
theorem pw_wrap (n : Nat) (h : (n : Int) < 8) : ∃ p : Int, p = ((256 ^ n : Nat) : Int) ∧ wrap64 (2 ^ (8 * n)) = p ∧ 1 ≤ p := by
  have h1 : (256 : Nat) ^ n ≤ 256 ^ 7 := Nat.pow_le_pow_right (by decide) (by omega)
  have h2 : (256 : Nat) ^ 7 = 72057594037927936 := by decide
  have h3 : 1 ≤ (256 : Nat) ^ n := Nat.one_le_pow _ _ (by decide)
  refine ⟨_, rfl, ?_, by omega⟩
  rw [rpow_256] at h1 h3 ⊢
  rw [Int.natCast_pow]
  show wrap64 ((2 : Int) ^ (8 * n)) = (2 : Int) ^ (8 * n)
  have h4 : ((2 ^ (8 * n) : Nat) : Int) = (2 : Int) ^ (8 * n) := by rw [Int.natCast_pow]; rfl
  rw [← h4]
  exact IntWalk.wrap64_in _ (by omega)
set_option maxRecDepth 100000 in
set_option maxHeartbeats 2000000 in
theorem rnum_bad (B b : Nat) (v : Value) (q : WS) (x : Int) (n : Nat) (w : World) (hn : 1 ≤ n ∧ n ≤ 8) (hx : -9223372036854775808 ≤ x ∧ x ≤ 9223372036854775807) (hb : badN x n = true) (h : Wr 101 B w b v q) :
    Calls Tryz.prog 60 #[.pointer (some ⟨b, 0, none⟩), .int .i64 x, .int .i64 n] w fun e w' => e = .returned (.tuple #[]) ∧ WrK 101 B b v w w' (q.1, true) := by
  have c1 : w.cell? ⟨b, 1, none⟩ = some (.bool q.2) := cell_of_blk h.blk 1 rfl
  have f1 := free_of_blk h.blk 1
  have H := Lib.hid h
  clear h
  have hfin : WrK 101 B b v w (w.setCell ⟨b, 1, none⟩ (.bool true)) (q.1, true) := by
    have hne : v.ownBlock ≠ some b := H.out.own.ne_blk H.out.blk (by decide)
    refine ⟨v, ⟨blk_set H.out.blk _, H.out.own.of_block fun g hg => Below.heap_setCell _ _ _ _ fun e => ?_, by simp [World.setCell]; exact H.out.size⟩, NewV.refl _ _, (Kp.refl _ _).setCell (p := ⟨b, 1, none⟩) (.inl (.inl rfl)) _⟩
    rw [e] at hg
    exact hne hg
  have HF := Lib.hid hfin
  clear hfin
  by_cases h0 : x < 0
  · clear hb
    go_enter Tryz.func60, Tryz.ntmps60
    go_wp2_with fail
    refine bodyPost_ret (v := .tuple #[]) (results_none rfl _ _ _) rfl ⟨rfl, HF.out⟩
  · have h0' : 0 ≤ x := by omega
    unfold badN at hb
    rw [decide_eq_false h0, Bool.false_or, Bool.and_eq_true, decide_eq_true_eq, decide_eq_true_eq, rpow_256] at hb
    obtain ⟨h8, hbig⟩ := hb
    have h8' : (n : Int) < 8 := by omega
    obtain ⟨p, hp, hw, hp1⟩ := pw_wrap n h8'
    rw [← rpow_256, ← hp] at hbig
    clear h8 hp
    go_enter Tryz.func60, Tryz.ntmps60
    go_wp2_with fail
    refine bodyPost_ret (v := .tuple #[]) (results_none rfl _ _ _) rfl ⟨rfl, HF.out⟩

set_option maxRecDepth 100000 in
set_option maxHeartbeats 4000000 in
theorem rnum_ok (B b : Nat) (v : Value) (q : WS) (x : Int) (n : Nat) (w : World) (hn : 1 ≤ n ∧ n ≤ 8) (hx : -9223372036854775808 ≤ x ∧ x ≤ 9223372036854775807) (hb : badN x n = false) (hz : q.1.size ≤ 70368744170000) (h : Wr 101 B w b v q) :
    Calls Tryz.prog 60 #[.pointer (some ⟨b, 0, none⟩), .int .i64 x, .int .i64 n] w fun e w' => e = .returned (.tuple #[]) ∧ WrK 101 B b v w w' (q.1 ++ numB x n, q.2) := by
  have c0 : w.cell? ⟨b, 0, none⟩ = some v := cell_of_blk h.blk 0 rfl
  have H := Lib.hid h
  have hne := Lib.hid (h.own.ne_blk h.blk (by decide))
  clear h
  unfold badN at hb
  rw [Bool.or_eq_false_iff, decide_eq_false_iff_not, Bool.and_eq_false_iff, decide_eq_false_iff_not, decide_eq_false_iff_not] at hb
  obtain ⟨h0, hb⟩ := hb
  have h0' : 0 ≤ x := by omega
  have hsz : q.1.size + (numB x n).size ≤ 70368744177664 := by rw [numB, numTop_size]; omega
  have HC : ∀ W, Calls Tryz.prog 67 #[.int .u64 x, .int .i64 n] W fun e w' => e = .returned (.string (numB x n)) ∧ Below W.heap.size W w' := fun W => refNumber_any x n W (by omega) hn.2
  have HC' := Lib.hid HC
  clear HC
  go_enter Tryz.func60, Tryz.ntmps60
  by_cases h8 : (n : Int) < 8
  case' pos =>
    obtain ⟨p, hp, hw, hp1⟩ := pw_wrap n h8
    have hlt : x < p := by
      rw [← hp] at hb
      omega
    clear hb hp
    go_wp2_with fail
    clear hw
  case' neg =>
    clear hb
    go_wp2_with fail
  all_goals
    have hwu : IntKind.u64.wrap x = x := IntWalk.u64_in _ (by omega)
    go_region_law ((first
      | (refine step_appS (by rfl) _ _ (by rfl) B v q.1 (by rfl) (by first | (refine Wr.own (Wr.below H.out ?_); assumption) | exact H.out.own) (numB x n) (by rfl) hsz (by first | (refine Wr.size (Wr.below H.out ?_); assumption) | exact H.out.size) ?_; intro ao n' cap w2 ho hg hv; have hbk := grown_blk (by first | (refine Wr.blk (Wr.below H.out ?_); assumption) | exact H.out.blk) hg hne.out; have e0 : w2.cell? ⟨b, 0, none⟩ = some v := cell_of_blk hbk 0 rfl; have e1 := blk_free hbk 0)
      | (go_simp; refine (HC'.out _).mono ?_; rintro e w1 ⟨rfl, hb1⟩; have hb2 : Below w.heap.size w w1 := below_drew hb1; have d0 := (hb2.cell (p := ⟨b, 0, none⟩) (cell_lt c0)).trans c0)))
    all_goals
      have HF := Lib.hid (wrk_app' (H.out.below hb2) (NewV.refl _ _) (Kp.of_below hb2) (by decide) ho hg hv)
      clear ho hg hv hbk hb1 hb2 d0 hwu
      go_wp2_with fail
      go_end0
      exact ⟨rfl, HF.out⟩

theorem rnum_any (B b : Nat) (v : Value) (q : WS) (x : Int) (n : Nat) (w : World) (hn : 1 ≤ n ∧ n ≤ 8) (hx : -9223372036854775808 ≤ x ∧ x ≤ 9223372036854775807) (hz : q.1.size ≤ 70368744170000) (h : Wr 101 B w b v q) :
    Calls Tryz.prog 60 #[.pointer (some ⟨b, 0, none⟩), .int .i64 x, .int .i64 n] w fun e w' => e = .returned (.tuple #[]) ∧ WrK 101 B b v w w' (wNum q x n) := by
  unfold wNum
  cases hb : badN x n with
  | true => exact rnum_bad B b v q x n w hn hx hb h
  | false => exact rnum_ok B b v q x n w hn hx hb hz h

set_option maxRecDepth 100000 in
set_option maxHeartbeats 1000000 in
theorem rwtext_any (B b : Nat) (v : Value) (q : WS) (s : ByteArray) (w : World) (hz : q.1.size ≤ 70368744000000) (hs : s.size ≤ 9223372036854775807) (h : Wr 101 B w b v q) :
    Calls Tryz.prog 51 #[.pointer (some ⟨b, 0, none⟩), .string s] w fun e w' => e = .returned (.tuple #[]) ∧ WrK 101 B b v w w' (rText q s) := by
  unfold rText
  by_cases hbig : 65535 < s.size
  · rw [if_pos hbig]
    have c1 : w.cell? ⟨b, 1, none⟩ = some (.bool q.2) := cell_of_blk h.blk 1 rfl
    have f1 := free_of_blk h.blk 1
    have hbig' : (65535 : Int) < (s.size : Int) := by omega
    have HF := Lib.hid (wrk_bad h (by decide))
    clear h
    go_enter Tryz.func51, Tryz.ntmps51
    go_wp2_with fail
    refine bodyPost_ret (v := .tuple #[]) (results_none rfl _ _ _) rfl ⟨rfl, HF.out⟩
  · rw [if_neg hbig]
    have hbig' : ¬ (65535 : Int) < (s.size : Int) := by omega
    have HC := Lib.hid (rnum_any B b v q s.size 2 w (by decide) (by omega) (by omega) h)
    have hsz := wNum_size q s.size 2
    clear h
    go_enter Tryz.func51, Tryz.ntmps51
    go_wp2_with fail
    refine HC.out.mono ?_
    rintro e w1 ⟨rfl, v1, hW, hnv, hkp⟩
    have HW := Lib.hid hW
    have HN := Lib.hid hnv
    have HK := Lib.hid hkp
    have c0 : w1.cell? ⟨b, 0, none⟩ = some v1 := cell_of_blk hW.blk 0 rfl
    have hne : v1.ownBlock ≠ some b := HW.out.own.ne_blk HW.out.blk (by decide)
    clear hW hnv hkp HC
    go_wp2_with (first | (at_builtin; refine wpList_appSw _ rfl rfl _ _ rfl B _ (wNum q s.size 2).1 rfl HW.out.own s rfl ?_ HW.out.size ?_) | fail)
    · omega
    intro ao n' cap w2 ho hg hv
    have hb2 := grown_blk HW.out.blk hg hne
    have e0 : w2.cell? ⟨b, 0, none⟩ = some v1 := cell_of_blk hb2 0 rfl
    have e1 := blk_free hb2 0
    have HF := Lib.hid (wrk_app' HW.out HN.out HK.out (by decide) ho hg hv)
    clear ho hg hv hb2 hne
    go_wp2_with fail
    go_end0
    exact ⟨rfl, HF.out⟩

set_option maxRecDepth 100000 in
theorem rbytes_any (B b : Nat) (v : Value) (q : WS) (w : World) (h : Wr 101 B w b v q) :
    Calls Tryz.prog 53 #[.pointer (some ⟨b, 0, none⟩)] w fun e w' => e = .returned (.tuple #[.string (wOut q).1, .int .i64 (wOut q).2]) ∧ w = w' := by
  obtain ⟨s, bad⟩ := q
  have c0 : w.cell? ⟨b, 0, none⟩ = some v := cell_of_blk h.blk 0 rfl
  have c1 : w.cell? ⟨b, 1, none⟩ = some (.bool bad) := cell_of_blk h.blk 1 rfl
  have HR := Lib.hid (run_str h.own)
  clear h
  go_enter Tryz.func53, Tryz.ntmps53
  cases bad with
  | true =>
    go_wp2_with fail
    go_ret2
    exact ⟨rfl, rfl⟩
  | false =>
    go_wp2_with fail
    rw [HR.out]
    simp only [Result.andThen]
    rw [Oper.upon_value]
    go_wp2_with fail
    go_ret2
    exact ⟨rfl, rfl⟩
end Go.Proofs.YtmejjphliaiamaaGreatDoor
