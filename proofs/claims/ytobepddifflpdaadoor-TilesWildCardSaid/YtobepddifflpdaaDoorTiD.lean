import Derived.Test.YtobepddifflpdaaDoorTiC
set_option linter.unusedVariables false
namespace Go.Proofs.YtobepddifflpdaaDoor
open Go Go.RowKit Go.Lib Go.Sort Go.Maps Go.WideMaps

def PrfPost (Z : Src) (n : Nat) (L : List ByteArray) (w : World) (s : Z.σ) (en : Ending) (w' : World) : Prop :=
  ∃ v e' s' l, en = .returned (.tuple #[v, .int .i64 e']) ∧ Out Z n (2 * n) w s w' e' s' ∧ OwnS w' w.heap.size v l ∧ (∀ g, v.ownBlock = some g → ¬ Z.R s' g) ∧ (e' = 0 → l = L) ∧ (e' ≠ 0 → l = [])
def ArgPost (Z : Src) (n : Nat) (w : World) (s : Z.σ) (en : Ending) (w' : World) : Prop :=
  en = .returned (.tuple #[.slice none 0 0, .int .i64 1]) ∧ Out Z n 0 w s w' 0 s

theorem out_refl {Z : Src} {n c : Nat} {w w' : World} {s : Z.σ} (hI : Z.I w s) (hT : Tabs w) (k : Below w.heap.size w w') : Out Z n c w s w' 0 s :=
  ⟨Z.kp w w' s (fun _ => False) hI (Kp.of_below k) (fun _ _ h => h), Kp.of_below k, hT.below k, fun _ h => .inl h, fun _ h => .inl h, Ev.refl _ _ _ _ _⟩

set_option maxRecDepth 100000 in
set_option maxHeartbeats 1000000 in
theorem tincl_arg (Z : Src) (n : Nat) (i : Int) (w : World) (s : Z.σ) (hI : Z.I w s) (hT : Tabs w) (hn : n ≤ 1024) (hi : i < 0 ∨ (n : Int) ≤ i) :
    Calls Tryd.prog 20 #[.iface Z.T Z.x, .int .i64 n, .int .i64 i] w (ArgPost Z n w s) := by
  have HI := Lib.hid hI
  have HT := Lib.hid hT
  clear hI hT
  go_enter Tryd.func20, Tryd.ntmps20
  go_wp2_with fail
  have hb1 : Below w.heap.size w (w.alloc (.cells #[.int .i64 i] 3)) := (Below.refl _ _).alloc (Nat.le_refl _) _
  have hx := cell_of_blk (blk_new w (.cells #[.int .i64 i] 3)) 0 rfl
  generalize w.alloc (.cells #[.int .i64 i] 3) = w1 at hb1 hx ⊢
  refine (newReader_any Z n w1 s (Z.kp w w1 s (fun _ => False) HI.out (Kp.of_below hb1) (fun _ _ h => h)) (HT.out.below hb1) hn).mono ?_
  rintro en w2 ⟨rb, kb, rfl, hR, hb2, -, -⟩
  have x2 : w2.cell? ⟨w.heap.size, 0, none⟩ = some (.int .i64 i) := (hb2.cell (p := ⟨w.heap.size, 0, none⟩) (cell_lt hx)).trans hx
  have HB := Lib.hid (hb1.trans (hb2.mono hb1.size))
  clear hb1 hb2 hx hR
  by_cases h : i < 0
  · go_wp2_with fail
    go_ret2
    exact ⟨rfl, out_refl HI.out HT.out HB.out⟩
  · have h2 : (n : Int) ≤ i := by omega
    go_wp2_with fail
    go_ret2
    exact ⟨rfl, out_refl HI.out HT.out HB.out⟩

set_option maxRecDepth 100000 in
set_option maxHeartbeats 1000000 in
theorem tincl_ok (Z : Src) (n i : Nat) (V : Nat → Nat → ByteArray) (hV : Vals Z n V) (w : World) (s : Z.σ) (hI : Z.I w s) (hT : Tabs w) (hn : n ≤ 1024) (hi : i < n) (hlog : (Z.log s).length ≤ 400000000) :
    Calls Tryd.prog 20 #[.iface Z.T Z.x, .int .i64 n, .int .i64 i] w (PrfPost Z n (inclG (rootV V) 0 n i) w s) := by
  have HI := Lib.hid hI
  have HT := Lib.hid hT
  clear hI hT
  go_enter Tryd.func20, Tryd.ntmps20
  go_wp2_with fail
  have hb1 : Below w.heap.size w (w.alloc (.cells #[.int .i64 i] 3)) := (Below.refl _ _).alloc (Nat.le_refl _) _
  have hx := cell_of_blk (blk_new w (.cells #[.int .i64 i] 3)) 0 rfl
  have hsz1 := size_alloc w (.cells #[.int .i64 i] 3)
  generalize w.alloc (.cells #[.int .i64 i] 3) = w1 at hb1 hx hsz1 ⊢
  refine (newReader_any Z n w1 s (Z.kp w w1 s (fun _ => False) HI.out (Kp.of_below hb1) (fun _ _ h => h)) (HT.out.below hb1) hn).mono ?_
  rintro en w2 ⟨rb, kb, rfl, hR, hb2, hrb, hkb⟩
  have x2 : w2.cell? ⟨w.heap.size, 0, none⟩ = some (.int .i64 i) := (hb2.cell (p := ⟨w.heap.size, 0, none⟩) (cell_lt hx)).trans hx
  have HB := Lib.hid (hb1.trans (hb2.mono hb1.size))
  have HR := Lib.hid hR
  have hsz2 := hb2.size
  clear hb1 hb2 hx hR
  go_wp2_with fail
  refine (down_any Z rb kb n w.heap.size i V hV (incR i) incM (incJ V n i) (inc_downs V n i) _ _ (pred_incR w.heap.size i (by omega)) (pred_incM w.heap.size i) w2 s HR.out x2 (by omega) (by omega) (fun h => by have := Z.lt w s HI.out _ h; omega) (inc_start V n i hi) hlog).mono ?_
  rintro en w3 ⟨a, b, l, wh, e', s', v, rfl, hab, hbn, -, ho, hll, hls, hL, hdis, hj⟩
  have c2 : w3.cell? ⟨rb, 2, none⟩ = some (.int .i64 e') := cell_of_blk hL.rd.blk 2 rfl
  have hO := out_of_left HB.out (by omega) (by omega) (hL.mono (show 2 * (n - (b - a)) ≤ 2 * n by omega))
  have HO := Lib.hid hO
  have HOw := Lib.hid ho
  have HJ := Lib.hid hj
  have hszO := hO.kp.size
  have HL3 := Lib.hid (fun k hk => Z.lt w3 s' hL.rd.src k hk)
  clear hO ho hj hL x2 hdis
  go_wp2_with fail
  by_cases he : e' = 0
  · subst he
    obtain ⟨h1, h2⟩ := HJ.out rfl
    have hfin := inc_end h1 h2
    have HF := Lib.hid hfin
    clear h1 h2 hfin HJ
    refine (proof_ok rb w2.heap.size v l w3 #[] c2 HOw.out (by omega)).mono ?_
    rintro en w4 ⟨p, rfl, hp, hb4⟩
    have HP := Lib.hid hp
    have HO4 := Lib.hid (HO.out.below hb4)
    clear hp hb4
    go_wp2_with fail
    go_ret2
    exact ⟨p, 0, s', l.reverse, rfl, HO4.out, HP.out.base (fun g hg => by have := (OwnL.lt HP.out g hg).1; omega), (fun g hg h => by have := (OwnL.lt HP.out g hg).1; have := HL3.out g h; omega), fun _ => HF.out, fun h => absurd rfl h⟩
  · refine (proof_err rb v w3 e' he c2).mono ?_
    rintro en w4 ⟨rfl, hb4⟩
    have HO4 := Lib.hid (HO.out.below hb4)
    clear hb4
    go_wp2_with fail
    go_ret2
    exact ⟨_, e', s', [], rfl, HO4.out, ownL_nil _ _, (fun g hg => by cases hg), fun h => absurd h he, fun _ => rfl⟩

set_option maxRecDepth 100000 in
set_option maxHeartbeats 1000000 in
theorem tcons_arg (Z : Src) (n : Nat) (m : Int) (w : World) (s : Z.σ) (hI : Z.I w s) (hT : Tabs w) (hn : n ≤ 1024) (hm : m < 0 ∨ (n : Int) < m) :
    Calls Tryd.prog 23 #[.iface Z.T Z.x, .int .i64 n, .int .i64 m] w (ArgPost Z n w s) := by
  have HI := Lib.hid hI
  have HT := Lib.hid hT
  clear hI hT
  go_enter Tryd.func23, Tryd.ntmps23
  go_wp2_with fail
  have hb1 : Below w.heap.size w (w.alloc (.cells #[.int .i64 m] 3)) := (Below.refl _ _).alloc (Nat.le_refl _) _
  have hx := cell_of_blk (blk_new w (.cells #[.int .i64 m] 3)) 0 rfl
  generalize w.alloc (.cells #[.int .i64 m] 3) = w1 at hb1 hx ⊢
  refine (newReader_any Z n w1 s (Z.kp w w1 s (fun _ => False) HI.out (Kp.of_below hb1) (fun _ _ h => h)) (HT.out.below hb1) hn).mono ?_
  rintro en w2 ⟨rb, kb, rfl, hR, hb2, -, -⟩
  have x2 : w2.cell? ⟨w.heap.size, 0, none⟩ = some (.int .i64 m) := (hb2.cell (p := ⟨w.heap.size, 0, none⟩) (cell_lt hx)).trans hx
  have HB := Lib.hid (hb1.trans (hb2.mono hb1.size))
  clear hb1 hb2 hx hR
  by_cases h : m < 0
  · go_wp2_with fail
    go_ret2
    exact ⟨rfl, out_refl HI.out HT.out HB.out⟩
  · have h2 : (n : Int) < m := by omega
    go_wp2_with fail
    go_ret2
    exact ⟨rfl, out_refl HI.out HT.out HB.out⟩

set_option maxRecDepth 100000 in
set_option maxHeartbeats 1000000 in
theorem tcons_zero (Z : Src) (n : Nat) (w : World) (s : Z.σ) (hI : Z.I w s) (hT : Tabs w) (hn : n ≤ 1024) :
    Calls Tryd.prog 23 #[.iface Z.T Z.x, .int .i64 n, .int .i64 0] w (PrfPost Z n [] w s) := by
  have HI := Lib.hid hI
  have HT := Lib.hid hT
  clear hI hT
  go_enter Tryd.func23, Tryd.ntmps23
  go_wp2_with fail
  have hb1 : Below w.heap.size w (w.alloc (.cells #[.int .i64 0] 3)) := (Below.refl _ _).alloc (Nat.le_refl _) _
  have hx := cell_of_blk (blk_new w (.cells #[.int .i64 0] 3)) 0 rfl
  generalize w.alloc (.cells #[.int .i64 0] 3) = w1 at hb1 hx ⊢
  refine (newReader_any Z n w1 s (Z.kp w w1 s (fun _ => False) HI.out (Kp.of_below hb1) (fun _ _ h => h)) (HT.out.below hb1) hn).mono ?_
  rintro en w2 ⟨rb, kb, rfl, hR, hb2, -, -⟩
  have x2 : w2.cell? ⟨w.heap.size, 0, none⟩ = some (.int .i64 0) := (hb2.cell (p := ⟨w.heap.size, 0, none⟩) (cell_lt hx)).trans hx
  have HB := Lib.hid (hb1.trans (hb2.mono hb1.size))
  clear hb1 hb2 hx hR
  go_wp2_with fail
  go_ret2
  exact ⟨_, 0, s, [], rfl, out_refl HI.out HT.out HB.out, ownL_nil _ _, (fun g hg => by cases hg), fun _ => rfl, fun _ => rfl⟩
end Go.Proofs.YtobepddifflpdaaDoor
