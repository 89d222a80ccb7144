import Derived.Test.YtmejjphliaiamaaGreatDoorPkA
import Derived.Deep.RegionLaw
set_option linter.unusedVariables false
namespace Go.Proofs.YtmejjphliaiamaaGreatDoor
open Go Go.RowKit Go.Lib

def NRel (T : TypeId) (B b : Nat) (v0 : Value) (s : ByteArray) (bad : Bool) (x : Int) (n : Nat) (w : World) (i : Value) (wr : World) : Prop :=
  ∃ k : Nat, k ≤ n ∧ i = .int .i64 ((n : Int) - 1 - k) ∧ WrK T B b v0 w wr (s ++ numTop x n k, bad)

theorem wrk_app {T : TypeId} {B b : Nat} {v0 v : Value} {w0 wr w' : World} {s t : ByteArray} {bad : Bool} {ao : Option Addr} {n cap : Nat} {o : Obj} (hW : Wr T B wr b v (s, bad)) (hn : NewV w0 v0 v) (hk : Kp (WrS b v0) w0 wr) (hT : T ≠ 5)
    (ho : OwnB w' B (.slice ao n cap) (s ++ t)) (hg : (wr.alloc o).grownBy w' v.ownBlock) (hv : Value.ownBlock (.slice ao n cap) = v.ownBlock ∨ ∃ g, Value.ownBlock (.slice ao n cap) = some g ∧ (wr.alloc o).heap.size ≤ g) :
    WrK T B b v0 w0 (w'.setCell ⟨b, 0, none⟩ (.slice ao n cap)) (s ++ t, bad) := by
  have hne : v.ownBlock ≠ some b := hW.own.ne_blk hW.blk hT
  have hlt := hW.lt
  have hb1 : w'.heap[b]? = some (.cells #[v, .bool bad] T (0, 0)) := (hg.block b (by rw [size_alloc]; omega) (fun e => hne e.symm)).trans (blk_alloc hW.blk _)
  have hne' : Value.ownBlock (.slice ao n cap) ≠ some b := ho.ne_blk hb1 hT
  have hk1 : Kp (WrS b v) wr w' := ((Kp.refl _ _).alloc o).grown hg (fun k hk => .inl (.inr hk))
  have hk2 : Kp (WrS b v) wr (w'.setCell ⟨b, 0, none⟩ (.slice ao n cap)) := hk1.setCell (p := ⟨b, 0, none⟩) (.inl (.inl rfl)) _
  refine WrK.trans hn hk ⟨.slice ao n cap, ⟨blk_set hb1 _, ho.of_block fun g hg2 => Below.heap_setCell _ _ _ _ fun e => ?_, ?_⟩, hv.imp (fun h => h) fun ⟨g, h1, h2⟩ => ⟨g, h1, by rw [size_alloc] at h2; omega⟩, hk2⟩
  · rw [e] at hg2
    exact hne' hg2
  · exact Nat.le_trans hW.size hk2.size

theorem keep_cell {wr w1 : World} {a : Addr} {v v' : Value} {o : Obj} (c : wr.cell? a = some v) (hg : (wr.alloc o).drew.grownBy w1 v'.ownBlock) (hne : v'.ownBlock ≠ some a.block) : w1.cell? a = some v :=
  ((World.grownBy.cell_far hg) a (show a.block < (wr.alloc o).heap.size by rw [size_alloc]; exact Nat.lt_succ_of_lt (cell_lt c)) (fun e => hne e.symm)).trans (cell_alloc c o)
theorem keep_free {wr w1 : World} {a : Addr} {v v' : Value} {o : Obj} (c : wr.cell? a = some v) (f : wr.frozen? a = false) (hg : (wr.alloc o).drew.grownBy w1 v'.ownBlock) (hne : v'.ownBlock ≠ some a.block) : w1.frozen? a = false :=
  ((World.grownBy.frozen_far hg) a (show a.block < (wr.alloc o).heap.size by rw [size_alloc]; exact Nat.lt_succ_of_lt (cell_lt c)) (fun e => hne e.symm)).trans (free_alloc c f o)
theorem pow_256 (n : Nat) : (256 : Nat) ^ n = 2 ^ (8 * n) := by rw [Nat.pow_mul]
set_option maxRecDepth 100000 in
set_option maxHeartbeats 2000000 in
theorem num_bad (B b : Nat) (v : Value) (q : WS) (x : Int) (n : Nat) (w : World) (hn : 1 ≤ n ∧ n ≤ 8) (hx : -9223372036854775808 ≤ x ∧ x ≤ 9223372036854775807) (hb : badN x n = true) (h : Wr 75 B w b v q) :
    Calls Tryz.prog 91 #[.pointer (some ⟨b, 0, none⟩), .int .i64 x, .int .i64 n] w fun e w' => e = .returned (.tuple #[]) ∧ WrK 75 B b v w w' (q.1, true) := by
  have c1 := cell_of_blk h.blk 1 rfl
  have f1 := free_of_blk h.blk 1
  have H := Lib.hid h
  clear h
  have hfin : WrK 75 B b v w (w.setCell ⟨b, 1, none⟩ (.bool true)) (q.1, true) := by
    have hne : v.ownBlock ≠ some b := H.out.own.ne_blk H.out.blk (by decide)
    refine ⟨v, ⟨blk_set H.out.blk _, H.out.own.of_block fun g hg => Below.heap_setCell _ _ _ _ fun e => ?_, by simp [World.setCell]; exact H.out.size⟩, NewV.refl _ _, (Kp.refl _ _).setCell (p := ⟨b, 1, none⟩) (.inl (.inl rfl)) _⟩
    rw [e] at hg
    exact hne hg
  have HF := Lib.hid hfin
  clear hfin
  by_cases h0 : x < 0
  · clear hb
    go_enter Tryz.func91, Tryz.ntmps91
    go_wp2_with fail
    refine bodyPost_ret (v := .tuple #[]) (results_none rfl _ _ _) rfl ⟨rfl, HF.out⟩
  · have h0' : 0 ≤ x := by omega
    unfold badN at hb
    rw [decide_eq_false h0, Bool.false_or, Bool.and_eq_true, decide_eq_true_eq, decide_eq_true_eq, pow_256] at hb
    obtain ⟨h8, hbig⟩ := hb
    have h8' : (n : Int) < 8 := by omega
    have hq : (x / 2 ^ (8 * n) != 0) = true := by
      refine bne_iff_ne.2 fun e => ?_
      have h2 : (0 : Int) < 2 ^ (8 * n) := Int.pow_pos (by decide)
      rw [Int.natCast_pow] at hbig
      have := Int.le_ediv_of_mul_le h2 (show 1 * (2 : Int) ^ (8 * n) ≤ x by rw [Int.one_mul]; exact hbig)
      omega
    clear hbig h8
    go_enter Tryz.func91, Tryz.ntmps91
    go_wp2_with fail
    refine bodyPost_ret (v := .tuple #[]) (results_none rfl _ _ _) rfl ⟨rfl, HF.out⟩

attribute [local go_sem ↓] Go.wp_at_zero Go.wp_at_succ
set_option maxRecDepth 100000 in
set_option maxHeartbeats 4000000 in
theorem num_ok (B b : Nat) (v : Value) (q : WS) (x : Int) (n : Nat) (w : World) (hn : 1 ≤ n ∧ n ≤ 8) (hx : -9223372036854775808 ≤ x ∧ x ≤ 9223372036854775807) (hb : badN x n = false) (hz : q.1.size ≤ 70368744170000) (h : Wr 75 B w b v q) :
    Calls Tryz.prog 91 #[.pointer (some ⟨b, 0, none⟩), .int .i64 x, .int .i64 n] w fun e w' => e = .returned (.tuple #[]) ∧ WrK 75 B b v w w' (q.1 ++ numB x n, q.2) := by
  have H := Lib.hid h
  clear h
  unfold badN at hb
  rw [Bool.or_eq_false_iff, decide_eq_false_iff_not, Bool.and_eq_false_iff, decide_eq_false_iff_not, decide_eq_false_iff_not, pow_256, Int.natCast_pow] at hb
  obtain ⟨h0, hb⟩ := hb
  have h0' : 0 ≤ x := by omega
  have hq : (n : Int) < 8 → (x / 2 ^ (8 * n) != 0) = false := by
    intro h8
    refine bne_eq_false_iff_eq.2 ?_
    rcases hb with hb | hb
    · omega
    · exact Int.ediv_eq_zero_of_lt h0' (Int.not_le.1 hb)
  clear hb
  obtain ⟨b0, hb0⟩ : ∃ b0, b0 = decide ((n : Int) < 8) := ⟨_, rfl⟩
  go_enter Tryz.func91, Tryz.ntmps91
  by_cases h8 : (n : Int) < 8
  case' pos =>
    have hq1 := hq h8
    clear hq
    go_wp2_with fail
    clear hq1
  case' neg =>
    clear hq
    go_wp2_with fail
  all_goals
    go_loopw [2] (fun i wr => NRel 75 B b v q.1 q.2 x n w i wr) (fun i _ => (intOf i + 1).toNat)
    case atStart => exact ⟨0, Nat.zero_le _, by congr 1; omega, by rw [numTop, app_nil]; exact H.out.refl⟩
    case round =>
      obtain ⟨k, hk, rfl, v', hW, hnv, hkp⟩ := hrel
      have HW := Lib.hid hW
      have HN := Lib.hid hnv
      have HK := Lib.hid hkp
      have c0 : wr.cell? ⟨b, 0, none⟩ = some v' := cell_of_blk hW.blk 0 rfl
      have f0 := free_of_blk hW.blk 0
      clear hW hnv hkp
      by_cases hlt : k < n
      · obtain ⟨d, hd⟩ : ∃ d : Nat, d = n - 1 - k := ⟨_, rfl⟩
        have hdk : (n : Int) - 1 - (k : Int) = d := by omega
        have Hd := Lib.hid hd
        rw [hdk]
        clear hd
        have hx8 : x / (256 ^ (n - 1 - k) : Nat) % 256 = x / 2 ^ (8 * d) % 256 := by rw [← Hd.out, pow_256, Int.natCast_pow]; rfl
        have HX := Lib.hid hx8
        have hsz : (q.1 ++ numTop x n k).size + (oneB (x / (256 ^ (n - 1 - k) : Nat))).size ≤ 70368744177664 := by rw [ByteArray.size_append, numTop_size, oneB_size]; omega
        have hbs : B ≤ wr.heap.size + 1 := Nat.le_succ_of_le HW.out.size
        have hne : v'.ownBlock ≠ some b := HW.out.own.ne_blk HW.out.blk (by decide)
        clear hx8
        have hd8 : (d : Int) < 8 := by omega
        have hd0 : (0 : Int) ≤ 8 * (d : Int) := by omega
        have hw8 : IntKind.i64.wrap (8 * (d : Int)) = 8 * (d : Int) := IntWalk.i64_in _ (by omega)
        go_wp2_with fail
        have c0a := fun o => cell_alloc c0 o
        have f0a := fun o => free_alloc c0 f0 o
        go_region_law ((refine step_appB (by rfl) _ _ (by rfl) B v' (q.1 ++ numTop x n k) (by rfl) (HW.out.own.alloc _) (oneB (x / (256 ^ (n - 1 - k) : Nat))) ⟨wr.heap.size, 0, none⟩ 1 1 (by rfl) rfl (by exact cells_one HX.out) hsz (by simp; exact hbs) ?_; intro ao n' cap w1 ho hg hv; have e0 := keep_cell c0 hg hne; have e1 := keep_free c0 f0 hg hne))
        all_goals
          have hw := wrk_app HW.out HN.out HK.out (by decide) ho (grown_drew hg) hv
          have HF := Lib.hid hw
          clear hw ho hg hv e0 e1 c0a f0a hw8 hsz hbs hne HX
          go_wp2_with fail
          refine ⟨⟨k + 1, hlt, ?_, by rw [numTop, ← ByteArray.append_assoc]; exact HF.out⟩, ?_⟩
          · congr 1; omega
          · exact desc_of rfl rfl (by omega) (by omega)
      · have hkn : k = n := by omega
        subst hkn
        have hd : (k : Int) - 1 - (k : Int) = -1 := by omega
        go_wp2_with fail
        go_end0
        exact ⟨rfl, v', HW.out, HN.out, HK.out⟩

theorem num_any (B b : Nat) (v : Value) (q : WS) (x : Int) (n : Nat) (w : World) (hn : 1 ≤ n ∧ n ≤ 8) (hx : -9223372036854775808 ≤ x ∧ x ≤ 9223372036854775807) (hz : q.1.size ≤ 70368744170000) (h : Wr 75 B w b v q) :
    Calls Tryz.prog 91 #[.pointer (some ⟨b, 0, none⟩), .int .i64 x, .int .i64 n] w fun e w' => e = .returned (.tuple #[]) ∧ WrK 75 B b v w w' (wNum q x n) := by
  unfold wNum
  cases hb : badN x n with
  | true => exact num_bad B b v q x n w hn hx hb h
  | false => exact num_ok B b v q x n w hn hx hb hz h

theorem pw1_any (B b : Nat) (v : Value) (q : WS) (x : Int) (w : World) (hx : -9223372036854775808 ≤ x ∧ x ≤ 9223372036854775807) (hz : q.1.size ≤ 70368744170000) (h : Wr 75 B w b v q) :
    Calls Tryz.prog 34 #[.pointer (some ⟨b, 0, none⟩), .int .i64 x] w fun e w' => e = .returned (.tuple #[]) ∧ WrK 75 B b v w w' (wNum q x 1) := by
  have HC := Lib.hid (num_any B b v q x 1 w (by decide) hx hz h)
  clear h
  go_enter Tryz.func34, Tryz.ntmps34
  go_wp2_with fail
  refine HC.out.mono ?_
  rintro e w1 ⟨rfl, h1⟩
  have H1 := Lib.hid h1
  clear h1
  go_wp2_with fail
  go_end0
  exact ⟨rfl, H1.out⟩

theorem pw2_any (B b : Nat) (v : Value) (q : WS) (x : Int) (w : World) (hx : -9223372036854775808 ≤ x ∧ x ≤ 9223372036854775807) (hz : q.1.size ≤ 70368744170000) (h : Wr 75 B w b v q) :
    Calls Tryz.prog 35 #[.pointer (some ⟨b, 0, none⟩), .int .i64 x] w fun e w' => e = .returned (.tuple #[]) ∧ WrK 75 B b v w w' (wNum q x 2) := by
  have HC := Lib.hid (num_any B b v q x 2 w (by decide) hx hz h)
  clear h
  go_enter Tryz.func35, Tryz.ntmps35
  go_wp2_with fail
  refine HC.out.mono ?_
  rintro e w1 ⟨rfl, h1⟩
  have H1 := Lib.hid h1
  clear h1
  go_wp2_with fail
  go_end0
  exact ⟨rfl, H1.out⟩

set_option maxRecDepth 100000 in
set_option maxHeartbeats 1000000 in
theorem ptext_any (B b : Nat) (v : Value) (q : WS) (s : ByteArray) (w : World) (hz : q.1.size + s.size ≤ 70368744100000) (h : Wr 75 B w b v q) :
    Calls Tryz.prog 49 #[.pointer (some ⟨b, 0, none⟩), .string s] w fun e w' => e = .returned (.tuple #[]) ∧ WrK 75 B b v w w' (pText q s) := by
  have HC := Lib.hid (num_any B b v q s.size 2 w (by decide) (by omega) (by omega) h)
  have hsz := wNum_size q s.size 2
  clear h
  go_enter Tryz.func49, Tryz.ntmps49
  go_wp2_with fail
  refine HC.out.mono ?_
  rintro e w1 ⟨rfl, v1, hW, hnv, hkp⟩
  have HW := Lib.hid hW
  have HN := Lib.hid hnv
  have HK := Lib.hid hkp
  have c0 : w1.cell? ⟨b, 0, none⟩ = some v1 := cell_of_blk hW.blk 0 rfl
  have hne : v1.ownBlock ≠ some b := HW.out.own.ne_blk HW.out.blk (by decide)
  clear hW hnv hkp HC
  go_wp2_with (first | (at_builtin; refine wpList_appSw _ rfl rfl _ _ rfl B _ (wNum q s.size 2).1 rfl HW.out.own s rfl ?_ HW.out.size ?_) | fail)
  · omega
  intro ao n' cap w2 ho hg hv
  have hb2 := grown_blk HW.out.blk hg hne
  have e0 : w2.cell? ⟨b, 0, none⟩ = some v1 := cell_of_blk hb2 0 rfl
  have e1 := blk_free hb2 0
  have HF := Lib.hid (wrk_app' HW.out HN.out HK.out (by decide) ho hg hv)
  clear ho hg hv hb2 hne
  go_wp2_with fail
  go_end0
  exact ⟨rfl, HF.out⟩

set_option maxRecDepth 100000 in
theorem pbytes_any (B b : Nat) (v : Value) (q : WS) (w : World) (h : Wr 75 B w b v q) :
    Calls Tryz.prog 38 #[.pointer (some ⟨b, 0, none⟩)] w fun e w' => e = .returned (.tuple #[.string (wOut q).1, .int .i64 (wOut q).2]) ∧ w = w' := by
  obtain ⟨s, bad⟩ := q
  have c0 : w.cell? ⟨b, 0, none⟩ = some v := cell_of_blk h.blk 0 rfl
  have c1 : w.cell? ⟨b, 1, none⟩ = some (.bool bad) := cell_of_blk h.blk 1 rfl
  have HR := Lib.hid (run_str h.own)
  clear h
  go_enter Tryz.func38, Tryz.ntmps38
  cases bad with
  | true =>
    go_wp2_with fail
    go_ret2
    exact ⟨rfl, rfl⟩
  | false =>
    go_wp2_with fail
    rw [HR.out]
    simp only [Result.andThen]
    rw [Oper.upon_value]
    go_wp2_with fail
    go_ret2
    exact ⟨rfl, rfl⟩

theorem pw8_any (B b : Nat) (v : Value) (q : WS) (x : Int) (w : World) (hx : -9223372036854775808 ≤ x ∧ x ≤ 9223372036854775807) (hz : q.1.size ≤ 70368744170000) (h : Wr 75 B w b v q) :
    Calls Tryz.prog 36 #[.pointer (some ⟨b, 0, none⟩), .int .i64 x] w fun e w' => e = .returned (.tuple #[]) ∧ WrK 75 B b v w w' (wNum q x 8) := by
  have HC := Lib.hid (num_any B b v q x 8 w (by decide) hx hz h)
  clear h
  go_enter Tryz.func36, Tryz.ntmps36
  go_wp2_with fail
  refine HC.out.mono ?_
  rintro e w1 ⟨rfl, h1⟩
  have H1 := Lib.hid h1
  clear h1
  go_wp2_with fail
  go_end0
  exact ⟨rfl, H1.out⟩
end Go.Proofs.YtmejjphliaiamaaGreatDoor
