import Derived.Test.YtobepddifflpdaaDoorTlV
import Derived.Test.YtobepddifflpdaaDoorTlE
import Derived.Lib.QuietBelow
set_option linter.unusedVariables false
namespace Go.Proofs.YtobepddifflpdaaDoor
open Go Go.RowKit Go.Lib Go.Sort

/-- n texts of 32 bytes behind a slice's value (nil where there are none). -/
def HashS (w : World) (v : Value) (n : Nat) (ps : Nat → ByteArray) : Prop :=
  ∃ ao cap, v = .slice ao n cap ∧ n ≤ cap ∧ cap ≤ 9223372036854775807 ∧ (∀ i, (ps i).size = 32) ∧ (0 < n → ∃ pb, ao = some ⟨pb, 0, none⟩ ∧ ∀ j, j < n → w.cell? ⟨pb, j, none⟩ = some (.string (ps j)))

/-- a tile's text out of the hashes, or the error. -/
def makeR (n : Nat) (ps : Nat → ByteArray) (l i x : Int) : ByteArray × Int :=
  if fitT l i x then (if min 4 (((n / 2 ^ (2 * l.toNat) : Nat) : Int) - 4 * i) < x then (⟨#[]⟩, 5) else (makeT ps (4 ^ l.toNat) (4 * i.toNat) x.toNat, 0)) else (⟨#[]⟩, 1)

theorem fit_all {l i x : Int} (h : fitT l i x = true) : 0 ≤ l ∧ l ≤ 30 ∧ 0 ≤ i ∧ i ≤ 1099511627776 ∧ 1 ≤ x ∧ x ≤ 4 := by
  unfold fitT at h
  simp only [Bool.and_eq_true, decide_eq_true_eq] at h
  omega

set_option maxRecDepth 100000 in
set_option maxHeartbeats 1000000 in
theorem refmake_no (v : Value) (n : Nat) (ps : Nat → ByteArray) (l i x : Int) (w : World) (hn : n ≤ 1000) (hv : HashS w v n ps) (he : (makeR n ps l i x).2 ≠ 0) :
    Calls Tryd.prog 14 #[v, .agg #[.int .i64 l, .int .i64 i, .int .i64 x]] w fun e w' => e = .returned (.tuple #[.string ⟨#[]⟩, .int .i64 (makeR n ps l i x).2]) ∧ Below w.heap.size w w' := by
  obtain ⟨ao, cap, rfl, hcap, hc2, hsz, hc⟩ := hv
  clear hc
  go_enter Tryd.func14, Tryd.ntmps14
  go_wp2_with fail
  refine (reffit_any l i x _).mono ?_
  rintro e w1 ⟨rfl, hb⟩
  have hsz1 : w.heap.size + 1 ≤ w1.heap.size := by have := hb.size; rwa [size_alloc] at this
  have HB := Lib.hid ((Below.refl w.heap.size w).alloc (Nat.le_refl _) _ |>.trans (hb.mono (by rw [size_alloc]; omega)))
  have hcell : ∀ j v, #[Value.int .i64 l, .int .i64 i, .int .i64 x][j]? = some v → w1.cell? ⟨w.heap.size, j, none⟩ = some v := fun j v hv =>
    (hb.cell (p := ⟨w.heap.size, j, none⟩) (by rw [size_alloc]; exact Nat.lt_succ_self _)).trans (cell_of_blk (blk_new w _) j hv)
  have c0 : w1.cell? ⟨w.heap.size, 0, none⟩ = some (.int .i64 l) := hcell 0 _ rfl
  have c1 : w1.cell? ⟨w.heap.size, 1, none⟩ = some (.int .i64 i) := hcell 1 _ rfl
  have c2 : w1.cell? ⟨w.heap.size, 2, none⟩ = some (.int .i64 x) := hcell 2 _ rfl
  clear hb hcell
  by_cases hf : fitT l i x = true
  · rw [hf]
    have hbd := fit_all hf
    obtain ⟨l, rfl⟩ := Int.eq_ofNat_of_zero_le (a := l) (by omega)
    obtain ⟨i, rfl⟩ := Int.eq_ofNat_of_zero_le (a := i) (by omega)
    have hlt : max 0 (min 4 (((n / 2 ^ (2 * l) : Nat) : Int) - 4 * (i : Int))) < x ∧ (makeR n ps (l : Int) (i : Int) x).2 = 5 := by
      unfold makeR at he ⊢
      rw [hf, if_pos rfl] at he ⊢
      simp only [Int.toNat_natCast] at he ⊢
      by_cases h : min 4 (((n / 2 ^ (2 * l) : Nat) : Int) - 4 * (i : Int)) < x
      · rw [if_pos h]
        exact ⟨by omega, rfl⟩
      · rw [if_neg h] at he
        exact absurd rfl he
    obtain ⟨hlt, he5⟩ := hlt
    have HE := Lib.hid he5
    clear he5
    have k0 := cell_regrown c0
    have k1 := cell_regrown c1
    have k2 := cell_regrown c2
    generalize hM : max 0 (min 4 (((n / 2 ^ (2 * l) : Nat) : Int) - 4 * (i : Int))) = M at hlt
    have cW : ∀ d os, Calls Tryd.prog 42 #[.int .i64 n, .int .i64 l, .int .i64 i] (grow (redrawn w1 d) os) fun e w'' => e = .returned (.int .i64 M) ∧ ∃ p : Regrown, w'' = grow (redrawn w1 p.d) p.os :=
      fun d os => Calls.regrown_of ((refwidth_any n l i _ (by omega) (by omega) (by omega)).mono fun e w' h => ⟨hM ▸ h.1, h.2 ▸ Below.refl _ _⟩)
    have HM := Lib.hid hM
    clear hM he
    go_wp2_with fail
    refine wp_region_quiet_below (by kernel_rfl) (by kernel_rfl) ?_
    repeat quiet_step (with_reducible exact cW _ _)
    refine wpQuiet_nil ?_
    intro w2 hw2
    obtain ⟨⟨dq, osq⟩, hw''⟩ := hw2
    have hb2 : Below w1.heap.size w1 w2 := by rw [hw'']; exact below_regrown w1 dq osq
    have HB2 := Lib.hid (HB.out.trans (hb2.mono (by omega)))
    clear hw'' cW k0 k1 k2 c0 c1 hb2
    go_wp2_with fail
    go_ret2
    exact ⟨by rw [HE.out]; rfl, HB2.out⟩
  · have hf : fitT l i x = false := by simpa using hf
    rw [hf]
    go_wp2_with fail
    go_ret2
    exact ⟨by rw [makeR, hf]; rfl, HB.out⟩

/-- the document's Make, whatever the tile. -/
theorem refmake_all (v : Value) (n : Nat) (ps : Nat → ByteArray) (l i x : Int) (w : World) (hn : n ≤ 1000) (hv : HashS w v n ps) :
    Calls Tryd.prog 14 #[v, .agg #[.int .i64 l, .int .i64 i, .int .i64 x]] w fun e w' => e = .returned (.tuple #[.string (makeR n ps l i x).1, .int .i64 (makeR n ps l i x).2]) ∧ Below w.heap.size w w' := by
  by_cases hf : fitT l i x = true
  · have hbd := fit_all hf
    obtain ⟨l, rfl⟩ := Int.eq_ofNat_of_zero_le (a := l) (by omega)
    obtain ⟨i, rfl⟩ := Int.eq_ofNat_of_zero_le (a := i) (by omega)
    obtain ⟨x, rfl⟩ := Int.eq_ofNat_of_zero_le (a := x) (by omega)
    by_cases h : min 4 (((n / 2 ^ (2 * l) : Nat) : Int) - 4 * (i : Int)) < x
    · have h2 : makeR n ps (l : Int) (i : Int) (x : Int) = (⟨#[]⟩, 5) := by
        unfold makeR
        rw [hf, if_pos rfl]
        simp only [Int.toNat_natCast]
        rw [if_pos h]
      have := refmake_no v n ps l i x w hn hv (by rw [h2]; decide)
      rw [h2] at this ⊢
      exact this
    · have h2 : makeR n ps (l : Int) (i : Int) (x : Int) = (makeT ps (4 ^ l) (4 * i) x, 0) := by
        unfold makeR
        rw [hf, if_pos rfl]
        simp only [Int.toNat_natCast]
        rw [if_neg h]
      obtain ⟨ao, cap, rfl, hcap, hc2, hsz, hc⟩ := hv
      have hn0 : 0 < n := by
        have : n / 2 ^ (2 * l) ≤ n := Nat.div_le_self _ _
        omega
      obtain ⟨pb, rfl, hcell⟩ := hc hn0
      rw [h2]
      exact refmake_any n pb cap ps l i x w hn hcap hc2 hcell hsz hf (by omega)
  · have hf : fitT l i x = false := by simpa using hf
    have h2 : makeR n ps l i x = (⟨#[]⟩, 1) := by unfold makeR; rw [hf]; rfl
    have := refmake_no v n ps l i x w hn hv (by rw [h2]; decide)
    rw [h2] at this ⊢
    exact this
end Go.Proofs.YtobepddifflpdaaDoor
