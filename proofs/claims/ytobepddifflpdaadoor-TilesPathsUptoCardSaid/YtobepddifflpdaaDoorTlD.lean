import Derived.Test.YtobepddifflpdaaDoorTlC
import Derived.Test.YtobepddifflpdaaDoorTrC
set_option linter.unusedVariables false
namespace Go.Proofs.YtobepddifflpdaaDoor
open Go Go.RowKit Go.Lib Go.Sort

/-- a tile's text: the roots of its parts. -/
def makeT (ps : Nat → ByteArray) (sz from_ : Nat) : Nat → ByteArray
  | 0 => ⟨#[]⟩
  | j + 1 => makeT ps sz from_ j ++ rootL ps (sz * (from_ + j)) sz

theorem makeT_le (ps : Nat → ByteArray) (z fr : Nat) : ∀ j, (∀ i, (ps i).size ≤ 10000000000) → j ≤ 10 → (makeT ps z fr j).size ≤ 100000000000
  | 0, _, _ => Nat.zero_le _
  | j + 1, h, hj => by
    have key : ∀ j, (makeT ps z fr j).size ≤ j * 10000000000 := by
      intro j
      induction j with
      | zero => exact Nat.zero_le _
      | succ j ih =>
        have := rootL_size ps (z * (fr + j)) z h
        rw [makeT, ByteArray.size_append]
        omega
    have := key (j + 1)
    omega

def MkRel (ps : Nat → ByteArray) (z fr x tb i : Nat) (w : World) (s j : Value) (wr : World) : Prop :=
  ∃ k : Nat, k ≤ x ∧ s = .string (makeT ps z fr k) ∧ j = .int .i64 k ∧ wr.cell? ⟨tb, 1, none⟩ = some (.int .i64 i) ∧ wr.cell? ⟨tb, 2, none⟩ = some (.int .i64 x) ∧ Below w.heap.size w wr

set_option maxRecDepth 100000 in
set_option maxHeartbeats 1000000 in
theorem refmake_any (n pb cap : Nat) (ps : Nat → ByteArray) (l i x : Nat) (w : World) (hn : n ≤ 1000) (hcap : n ≤ cap) (hc2 : cap ≤ 9223372036854775807) (hcell : ∀ j, j < n → w.cell? ⟨pb, j, none⟩ = some (.string (ps j))) (hsz : ∀ i, (ps i).size = 32)
    (hf : fitT l i x = true) (hw : (x : Int) ≤ max 0 (min 4 (((n / 2 ^ (2 * l) : Nat) : Int) - 4 * i))) :
    Calls Tryd.prog 14 #[.slice (some ⟨pb, 0, none⟩) n cap, .agg #[.int .i64 l, .int .i64 i, .int .i64 x]] w fun e w' => e = .returned (.tuple #[.string (makeT ps (4 ^ l) (4 * i) x), .int .i64 0]) ∧ Below w.heap.size w w' := by
  have Hc := Lib.hid hcell
  have Hs := Lib.hid hsz
  clear hcell hsz
  go_enter Tryd.func14, Tryd.ntmps14
  go_wp2_with fail
  refine (reffit_any l i x _).mono ?_
  rintro e w1 ⟨rfl, hb⟩
  have hsz1 : w.heap.size + 1 ≤ w1.heap.size := by have := hb.size; rwa [size_alloc] at this
  have HB := Lib.hid ((Below.refl w.heap.size w).alloc (Nat.le_refl _) _ |>.trans (hb.mono (by rw [size_alloc]; omega)))
  have hcell : ∀ j v, #[Value.int .i64 l, .int .i64 i, .int .i64 x][j]? = some v → w1.cell? ⟨w.heap.size, j, none⟩ = some v := fun j v hv =>
    (hb.cell (p := ⟨w.heap.size, j, none⟩) (by rw [size_alloc]; exact Nat.lt_succ_self _)).trans (cell_of_blk (blk_new w _) j hv)
  have c0 : w1.cell? ⟨w.heap.size, 0, none⟩ = some (.int .i64 l) := hcell 0 _ rfl
  have c1 : w1.cell? ⟨w.heap.size, 1, none⟩ = some (.int .i64 i) := hcell 1 _ rfl
  have c2 : w1.cell? ⟨w.heap.size, 2, none⟩ = some (.int .i64 x) := hcell 2 _ rfl
  clear hb hcell
  rw [hf]
  have hbd : (l : Int) ≤ 30 ∧ (i : Int) ≤ 1099511627776 ∧ 1 ≤ (x : Int) ∧ (x : Int) ≤ 4 := by
    unfold fitT at hf
    simp only [Bool.and_eq_true, decide_eq_true_eq] at hf
    omega
  have k0 := cell_regrown c0
  have k1 := cell_regrown c1
  have k2 := cell_regrown c2
  generalize hM : max 0 (min 4 (((n / 2 ^ (2 * l) : Nat) : Int) - 4 * (i : Int))) = M at hw
  have cW : ∀ d os, Calls Tryd.prog 42 #[.int .i64 n, .int .i64 l, .int .i64 i] (grow (redrawn w1 d) os) fun e w'' => e = .returned (.int .i64 M) ∧ ∃ p : Regrown, w'' = grow (redrawn w1 p.d) p.os :=
    fun d os => Calls.regrown_of ((refwidth_any n l i _ (by omega) (by omega) (by omega)).mono fun e w' h => ⟨hM ▸ h.1, h.2 ▸ Below.refl _ _⟩)
  have HM := Lib.hid hM
  clear hM
  go_wp2_with fail
  refine wp_region_quiet_below (by kernel_rfl) (by kernel_rfl) ?_
  repeat quiet_step (with_reducible exact cW _ _)
  refine wpQuiet_nil ?_
  intro w2 hw2
  obtain ⟨⟨dq, osq⟩, hw''⟩ := hw2
  have hb2 : Below w1.heap.size w1 w2 := by rw [hw'']; exact below_regrown w1 dq osq
  have HB2 := Lib.hid (HB.out.trans (hb2.mono (by omega)))
  have e0 : w2.cell? ⟨w.heap.size, 0, none⟩ = some (.int .i64 l) := (hb2.cell (p := ⟨w.heap.size, 0, none⟩) (by show w.heap.size < w1.heap.size; omega)).trans c0
  have e1 : w2.cell? ⟨w.heap.size, 1, none⟩ = some (.int .i64 i) := (hb2.cell (p := ⟨w.heap.size, 1, none⟩) (by show w.heap.size < w1.heap.size; omega)).trans c1
  have e2 : w2.cell? ⟨w.heap.size, 2, none⟩ = some (.int .i64 x) := (hb2.cell (p := ⟨w.heap.size, 2, none⟩) (by show w.heap.size < w1.heap.size; omega)).trans c2
  clear hw'' cW k0 k1 k2 c0 c1 c2
  obtain ⟨z, hz⟩ : ∃ z, z = 2 ^ (2 * l) := ⟨_, rfl⟩
  have hz4 : 4 ^ l = z := by rw [hz, Nat.pow_mul]
  have hz0 : 0 < z := by rw [hz]; exact Nat.two_pow_pos _
  have hfull : (4 * i + x) * z ≤ n := by
    have h1 := HM.out
    rw [← hz] at h1
    have h2 : 4 * i + x ≤ n / z := by omega
    exact Nat.le_trans (Nat.mul_le_mul_right z h2) (Nat.div_mul_le_self n z)
  have hzn : z ≤ n := by
    have : 1 * z ≤ (4 * i + x) * z := Nat.mul_le_mul_right z (by omega)
    omega
  have hwrap : wrap64 (2 ^ (2 * l)) = (z : Int) := by
    have : ((2 : Int) ^ (2 * l)) = (z : Int) := by rw [hz, Int.natCast_pow]; rfl
    rw [this]
    unfold wrap64
    omega
  have Hz4 := Lib.hid hz4
  have Hfull := Lib.hid hfull
  have Hz := Lib.hid hz
  clear hz hz4 hfull
  go_wp2_with fail
  rw [hwrap]
  clear hwrap
  go_loopw [7, 8] (fun s j wr => MkRel ps z (4 * i) x w.heap.size i w s j wr) (fun _ j _ => x - (RowKit.intOf j).toNat)
  case atStart => exact ⟨0, Nat.zero_le _, rfl, rfl, e1, e2, HB2.out⟩
  case round =>
    obtain ⟨j, hj, rfl, rfl, hi1, hx1, hbel⟩ := hrel
    have HB3 := Lib.hid hbel
    clear hbel
    by_cases hlt : j < x
    · obtain ⟨q, hq⟩ : ∃ q, q = 4 * i + j := ⟨_, rfl⟩
      have hq1 : 4 * (i : Int) + (j : Int) = (q : Int) := by omega
      obtain ⟨u, hu⟩ : ∃ u, u = q * z := ⟨_, rfl⟩
      have hqz : (q : Int) * (z : Int) = (u : Int) := by rw [hu, Int.natCast_mul]
      have hqz1 : ((q : Int) + 1) * (z : Int) = (u : Int) + z := by rw [Int.add_mul, hqz, Int.one_mul]
      have hun : u + z ≤ n := by
        have h1 : (q + 1) * z ≤ (4 * i + x) * z := Nat.mul_le_mul_right z (by omega)
        have h2 := Hfull.out
        rw [Nat.add_mul, Nat.one_mul, ← hu] at h1
        omega
      have Hq := Lib.hid hq
      have Hu := Lib.hid hu
      have hux : (u : Int) ≤ (u : Int) + z := by omega
      have hun2 : (u : Int) + z ≤ cap := by omega
      have hq2 : q ≤ 10000000000000 := by omega
      have hun3 : u + z ≤ 1000 := by omega
      have hz3 : z ≤ 1000 := by omega
      have hq3 : (q : Int) + 1 ≤ 10000000000001 := by omega
      clear hq hu e0 e1 e2 hb2
      go_wp2_with fail
      refine (refroot_any z pb u (cap - u) ps wr hz0 (by omega) (by omega) (fun t ht => (HB3.out.cell (p := ⟨pb, u + t, none⟩) (cell_lt (Hc.out (u + t) (by omega)))).trans (Hc.out (u + t) (by omega))) (fun t => by rw [Hs.out]; omega)).mono ?_
      rintro e w4 ⟨rfl, hb4⟩
      have hsz3 := HB3.out.size
      have hi2 := (hb4.cell (p := ⟨w.heap.size, 1, none⟩) (cell_lt hi1)).trans hi1
      have hx2 := (hb4.cell (p := ⟨w.heap.size, 2, none⟩) (cell_lt hx1)).trans hx1
      have HB4 := Lib.hid (HB3.out.trans (hb4.mono hsz3))
      have hms : (makeT ps z (4 * i) j).size ≤ 100000000000 := makeT_le ps _ _ _ (fun i => by rw [Hs.out]; omega) (by omega)
      have hrs : (rootL ps u z).size ≤ 10000000000 := rootL_size ps _ _ (fun i => by rw [Hs.out]; omega)
      have Hm := Lib.hid hms
      have n1 : ¬ 9223372036854775807 < (makeT ps z (4 * i) j).size + (rootL ps u z).size := by omega
      clear hb4 hi1 hx1
      go_wp2_with fail
      refine ⟨⟨j + 1, hlt, ?_, rfl, hi2, hx2, HB4.out⟩, ?_⟩
      · rw [makeT, ← Hq.out, Nat.mul_comm z q, ← Hu.out]
      · show x - ((j : Int) + 1).toNat < x - (j : Int).toNat
        omega
    · obtain rfl : j = x := by omega
      go_wp2_with fail
      go_ret2
      refine ⟨?_, HB3.out⟩
      rw [Hz4.out]
      rfl
end Go.Proofs.YtobepddifflpdaaDoor
