import Derived.Test.YtobepddifflpdaaDoorTlF
set_option linter.unusedVariables false
namespace Go.Proofs.YtobepddifflpdaaDoor
open Go Go.RowKit Go.Lib Go.Sort

def MkB (ps : Nat → ByteArray) (z fr x tb bb l i B : Nat) (w : World) (j : Value) (wr : World) : Prop :=
  ∃ k : Nat, k ≤ x ∧ j = .int .i64 k ∧ Bld bb bb (makeT ps z fr k) wr ∧ bb ≤ wr.heap.size ∧ wr.cell? ⟨tb, 0, none⟩ = some (.int .i64 l) ∧ wr.cell? ⟨tb, 1, none⟩ = some (.int .i64 i) ∧ Below B w wr

theorem wrap_nat (u : Nat) (h : u ≤ 1000000) : wrap64 (u : Int) = (u : Int) := by
  unfold wrap64
  omega
theorem two_pow_of {z k : Nat} (h : z = 2 ^ k) : ((2 : Int) ^ k) = (z : Int) := by
  rw [h, Int.natCast_pow]
  rfl
/-- a shift whose number is known, as one step. -/
theorem wpList_shl {P : Program} (w : World) {ops : Array Oper} {rest : List Oper} {o : Oper} {a : Act} {Q : Exit → Act → World → Prop} (hgd : o.guard = none) (x y : Operand) (t te : TypeId) (m k u : Int)
    (ho : o.op = .binOp .shl t x y te) (hx : a.eval x = .int .i64 m) (hy : a.eval y = .int .i64 k) (h0 : 0 ≤ k) (h1 : k ≤ 64) (hu : IntKind.i64.wrap (m * 2 ^ k.toNat) = u)
    (h : wpList P ops Q rest (a.put o.dst (.int .i64 u)) w) : wpList P ops Q (o :: rest) a w := by
  refine wpList_plain hgd fun K hK => ?_
  unfold Oper.wp execOp
  simp only [ho, hx, hy, binOp, shift_shl .i64 .i64 m k h0 h1, hu, Sem.run_bind, Sem.run_pure]
  exact hK _ _ h
theorem bld_below {B b : Nat} {s : ByteArray} {w w' : World} (h : Bld B b s w) (k : Below w.heap.size w w') : Bld B b s w' := by
  have key : ∀ p, Lib.BuilderAt 77 5 B b p (strCells s) w → Lib.BuilderAt 77 5 B b p (strCells s) w' := by
    rintro p ⟨hB, v, hb, hown, hne⟩
    refine ⟨hB, v, blk_later hb k, ?_, hne⟩
    have := OwnB.below (w := w) (w' := w') (base := B) (v := v) (s := s) (by unfold OwnB; rw [← strCells_length s]; exact hown) k
    unfold OwnB at this
    rwa [← strCells_length s] at this
  rcases h with h | h
  · exact Or.inl (key _ h)
  · exact Or.inr (key _ h)

set_option maxRecDepth 100000 in
set_option maxHeartbeats 1000000 in
theorem make_any (n pb cap : Nat) (ps : Nat → ByteArray) (l i x : Nat) (w : World) (hn : n ≤ 1000) (hcap : n ≤ cap) (hc2 : cap ≤ 9223372036854775807) (hcell : ∀ j, j < n → w.cell? ⟨pb, j, none⟩ = some (.string (ps j))) (hsz : ∀ i, (ps i).size = 32)
    (hf : fitT l i x = true) (hw : (x : Int) ≤ min 4 (((n / 2 ^ (2 * l) : Nat) : Int) - 4 * i)) :
    Calls Tryd.prog 13 #[.slice (some ⟨pb, 0, none⟩) n cap, .agg #[.int .i64 l, .int .i64 i, .int .i64 x]] w fun e w' => e = .returned (.tuple #[.string (makeT ps (4 ^ l) (4 * i) x), .int .i64 0]) ∧ Below w.heap.size w w' := by
  have Hc := Lib.hid hcell
  have Hs := Lib.hid hsz
  clear hcell hsz
  go_enter Tryd.func13, Tryd.ntmps13
  go_wp2_with fail
  refine (fit_any l i x _).mono ?_
  rintro e w1 ⟨rfl, hb⟩
  have hsz1 : w.heap.size + 1 ≤ w1.heap.size := by have := hb.size; rwa [size_alloc] at this
  have HB := Lib.hid ((Below.refl w.heap.size w).alloc (Nat.le_refl _) _ |>.trans (hb.mono (by rw [size_alloc]; omega)))
  have hcell : ∀ j v, #[Value.int .i64 l, .int .i64 i, .int .i64 x][j]? = some v → w1.cell? ⟨w.heap.size, j, none⟩ = some v := fun j v hv =>
    (hb.cell (p := ⟨w.heap.size, j, none⟩) (by rw [size_alloc]; exact Nat.lt_succ_self _)).trans (cell_of_blk (blk_new w _) j hv)
  have c0 : w1.cell? ⟨w.heap.size, 0, none⟩ = some (.int .i64 l) := hcell 0 _ rfl
  have c1 : w1.cell? ⟨w.heap.size, 1, none⟩ = some (.int .i64 i) := hcell 1 _ rfl
  have c2 : w1.cell? ⟨w.heap.size, 2, none⟩ = some (.int .i64 x) := hcell 2 _ rfl
  clear hb hcell
  rw [hf]
  have hbd : (l : Int) ≤ 30 ∧ (i : Int) ≤ 1099511627776 ∧ 1 ≤ (x : Int) ∧ (x : Int) ≤ 4 := by
    have := fit_all hf
    omega
  have k0 := cell_regrown c0
  have k1 := cell_regrown c1
  have k2 := cell_regrown c2
  generalize hM : min 4 (((n / 2 ^ (2 * l) : Nat) : Int) - 4 * (i : Int)) = M at hw
  have cW : ∀ d os, Calls Tryd.prog 35 #[.int .i64 n, .int .i64 l, .int .i64 i] (grow (redrawn w1 d) os) fun e w'' => e = .returned (.int .i64 M) ∧ ∃ p : Regrown, w'' = grow (redrawn w1 p.d) p.os :=
    fun d os => Calls.regrown_of ((width_any n l i _ (by omega) (by omega) (by omega)).mono fun e w' h => ⟨hM ▸ h.1, h.2 ▸ Below.refl _ _⟩)
  have HM := Lib.hid hM
  clear hM
  go_wp2_with fail
  refine wp_region_quiet_below (by kernel_rfl) (by kernel_rfl) ?_
  repeat quiet_step (with_reducible exact cW _ _)
  refine wpQuiet_nil ?_
  intro w2 hw2
  obtain ⟨⟨dq, osq⟩, hw''⟩ := hw2
  have hb2 : Below w1.heap.size w1 w2 := by rw [hw'']; exact below_regrown w1 dq osq
  have HB2 := Lib.hid (HB.out.trans (hb2.mono (by omega)))
  have e0 : w2.cell? ⟨w.heap.size, 0, none⟩ = some (.int .i64 l) := (hb2.cell (p := ⟨w.heap.size, 0, none⟩) (by show w.heap.size < w1.heap.size; omega)).trans c0
  have e1 : w2.cell? ⟨w.heap.size, 1, none⟩ = some (.int .i64 i) := (hb2.cell (p := ⟨w.heap.size, 1, none⟩) (by show w.heap.size < w1.heap.size; omega)).trans c1
  have e2 : w2.cell? ⟨w.heap.size, 2, none⟩ = some (.int .i64 x) := (hb2.cell (p := ⟨w.heap.size, 2, none⟩) (by show w.heap.size < w1.heap.size; omega)).trans c2
  have hsz2 : w.heap.size + 1 ≤ w2.heap.size := by have := hb2.size; omega
  clear hw'' cW k0 k1 k2 c0 c1 c2
  obtain ⟨z, hz⟩ : ∃ z, z = 2 ^ (2 * l) := ⟨_, rfl⟩
  have hz4 : 4 ^ l = z := by rw [hz, Nat.pow_mul]
  have hz0 : 0 < z := by rw [hz]; exact Nat.two_pow_pos _
  have hfull : (4 * i + x) * z ≤ n := by
    have h1 := HM.out
    rw [← hz] at h1
    have h2 : 4 * i + x ≤ n / z := by omega
    exact Nat.le_trans (Nat.mul_le_mul_right z h2) (Nat.div_mul_le_self n z)
  have hzn : z ≤ n := by
    have : 1 * z ≤ (4 * i + x) * z := Nat.mul_le_mul_right z (by omega)
    omega
  have Hz4 := Lib.hid hz4
  have Hfull := Lib.hid hfull
  have Hz := Lib.hid hz
  clear hz hz4 hfull
  have E2 := fun o => cell_alloc e2 o
  go_wp2_with fail
  clear E2
  have hbld : Bld w2.heap.size w2.heap.size (makeT ps z (4 * i) 0) (w2.alloc (.cells #[.pointer none, .slice none 0 0] 77)) :=
    Or.inl ⟨Nat.le_refl _, .slice none 0 0, blk_new _ _, ⟨rfl, .inl ⟨rfl, rfl⟩⟩, by simp [Value.ownBlock]⟩
  go_loopw [24] (fun j wr => MkB ps z (4 * i) x w.heap.size w2.heap.size l i w.heap.size w j wr) (fun j _ => x - (RowKit.intOf j).toNat)
  case atStart => exact ⟨0, Nat.zero_le _, rfl, hbld, by rw [size_alloc]; omega, cell_alloc e0 _, cell_alloc e1 _, HB2.out.alloc (by omega) _⟩
  case round =>
    obtain ⟨j, hj, rfl, hbl, hbsz, hl1, hi1, hbel⟩ := hrel
    have HB3 := Lib.hid hbel
    have HK := Lib.hid hbl
    clear hbel hbl hbld
    by_cases hlt : j < x
    · obtain ⟨q, hq⟩ : ∃ q, q = 4 * i + j := ⟨_, rfl⟩
      have hq1 : 4 * (i : Int) + (j : Int) = (q : Int) := by omega
      obtain ⟨u, hu⟩ : ∃ u, u = q * z := ⟨_, rfl⟩
      have hqz : (q : Int) * (z : Int) = (u : Int) := by rw [hu, Int.natCast_mul]
      have hun : u + z ≤ n := by
        have h1 : (q + 1) * z ≤ (4 * i + x) * z := Nat.mul_le_mul_right z (by omega)
        have h2 := Hfull.out
        rw [Nat.add_mul, Nat.one_mul, ← hu] at h1
        omega
      have Hq := Lib.hid hq
      have Hu := Lib.hid hu
      have hux : (u : Int) ≤ (u : Int) + z := by omega
      have hun2 : (u : Int) + z ≤ cap := by omega
      have hq2 : q ≤ 10000000000000 := by omega
      have hun3 : u + z ≤ 1000 := by omega
      have hz3 : z ≤ 1000 := by omega
      clear hq hu e0 e1 e2 hb2
      have hz2 : ((2 : Int) ^ (2 * l)) = (z : Int) := two_pow_of Hz.out
      have hl2n : (2 * (l : Int)).toNat = 2 * l := by omega
      have hw1 : IntKind.i64.wrap ((q : Int) * 2 ^ (2 * (l : Int)).toNat) = (u : Int) := by
        rw [hl2n, hz2, hqz]
        exact IntWalk.i64_in _ (by omega)
      have hw2 : IntKind.i64.wrap ((1 : Int) * 2 ^ (2 * (l : Int)).toNat) = (z : Int) := by
        rw [hl2n, hz2, Int.one_mul]
        exact IntWalk.i64_in _ (by omega)
      have HW1 := Lib.hid hw1
      have HW2 := Lib.hid hw2
      have hne : ¬ cap = u := by omega
      clear hw1 hw2 hl2n hz2 hqz
      go_wp2_with (first
        | (refine wpList_shl _ rfl _ _ _ _ (q : Int) (2 * (l : Int)) (u : Int) rfl rfl rfl (by omega) (by omega) HW1.out ?_)
        | (refine wpList_shl _ rfl _ _ _ _ (1 : Int) (2 * (l : Int)) (z : Int) rfl rfl rfl (by omega) (by omega) HW2.out ?_)
        | fail)
      refine (root_any z pb u (cap - u) ps wr (by omega) (by omega) (by omega) (fun t ht => (HB3.out.cell (p := ⟨pb, u + t, none⟩) (cell_lt (Hc.out (u + t) (by omega)))).trans (Hc.out (u + t) (by omega))) (fun t => by rw [Hs.out]; omega)).mono ?_
      rintro e w4 ⟨rfl, hb4⟩
      have hsz3 := HB3.out.size
      have hsz4 : w2.heap.size ≤ w4.heap.size := Nat.le_trans hbsz hb4.size
      have hi2 := (hb4.cell (p := ⟨w.heap.size, 1, none⟩) (cell_lt hi1)).trans hi1
      have hl2 := (hb4.cell (p := ⟨w.heap.size, 0, none⟩) (cell_lt hl1)).trans hl1
      have HB4 := Lib.hid (HB3.out.trans (hb4.mono hsz3))
      have hms : (makeT ps z (4 * i) j).size ≤ 100000000000 := makeT_le ps _ _ _ (fun i => by rw [Hs.out]; omega) (by omega)
      have hrs : (rootL ps u z).size ≤ 10000000000 := rootL_size ps _ _ (fun i => by rw [Hs.out]; omega)
      have Hm := Lib.hid hms
      have hk4 : Bld w2.heap.size w2.heap.size (makeT ps z (4 * i) j) w4 := bld_below HK.out hb4
      have HK4 := Lib.hid hk4
      clear hb4 hi1 hl1 hk4 HK HB3
      go_wp2_with fail
      refine (writeString_any w2.heap.size w2.heap.size _ (rootL ps u z) _ HK4.out (by have := Hm.out; omega) (by omega)).mono ?_
      rintro e w5 ⟨rfl, hk5, hb5⟩
      have hi3 := (hb5.cell (p := ⟨w.heap.size, 1, none⟩) (by show w.heap.size < w2.heap.size; omega)).trans hi2
      have hl3 := (hb5.cell (p := ⟨w.heap.size, 0, none⟩) (by show w.heap.size < w2.heap.size; omega)).trans hl2
      have HB5 := Lib.hid (HB4.out.trans (hb5.mono (by omega)))
      have HK5 := Lib.hid hk5
      have hsz5 : w2.heap.size ≤ w5.heap.size := Nat.le_trans hsz4 hb5.size
      clear hk5 hb5 hi2 hl2
      go_wp2_with fail
      refine ⟨⟨j + 1, hlt, rfl, ?_, hsz5, hl3, hi3, HB5.out⟩, ?_⟩
      · have := HK5.out
        rw [makeT, ← Hq.out, Nat.mul_comm z q, ← Hu.out]
        exact this
      · show x - ((j : Int) + 1).toNat < x - (j : Int).toNat
        omega
    · obtain rfl : j = x := by omega
      go_wp2_with fail
      refine (Tryd.Builder_String_any w2.heap.size w2.heap.size (makeT ps z (4 * i) j).data.toList wr HK.out hbsz).mono ?_
      rintro e w6 ⟨rfl, hb6⟩
      have HB6 := Lib.hid (HB3.out.trans (hb6.mono (by omega)))
      clear hb6
      go_wp2_with fail
      go_ret2
      refine ⟨?_, HB6.out⟩
      rw [Hz4.out]
      rfl
set_option maxRecDepth 100000 in
set_option maxHeartbeats 1000000 in
theorem make_no (v : Value) (n : Nat) (ps : Nat → ByteArray) (l i x : Int) (w : World) (hn : n ≤ 1000) (hv : HashS w v n ps) (he : (makeR n ps l i x).2 ≠ 0) :
    Calls Tryd.prog 13 #[v, .agg #[.int .i64 l, .int .i64 i, .int .i64 x]] w fun e w' => e = .returned (.tuple #[.string ⟨#[]⟩, .int .i64 (makeR n ps l i x).2]) ∧ Below w.heap.size w w' := by
  obtain ⟨ao, cap, rfl, hcap, hc2, hsz, hc⟩ := hv
  clear hc
  go_enter Tryd.func13, Tryd.ntmps13
  go_wp2_with fail
  refine (fit_any l i x _).mono ?_
  rintro e w1 ⟨rfl, hb⟩
  have hsz1 : w.heap.size + 1 ≤ w1.heap.size := by have := hb.size; rwa [size_alloc] at this
  have HB := Lib.hid ((Below.refl w.heap.size w).alloc (Nat.le_refl _) _ |>.trans (hb.mono (by rw [size_alloc]; omega)))
  have hcell : ∀ j v, #[Value.int .i64 l, .int .i64 i, .int .i64 x][j]? = some v → w1.cell? ⟨w.heap.size, j, none⟩ = some v := fun j v hv =>
    (hb.cell (p := ⟨w.heap.size, j, none⟩) (by rw [size_alloc]; exact Nat.lt_succ_self _)).trans (cell_of_blk (blk_new w _) j hv)
  have c0 : w1.cell? ⟨w.heap.size, 0, none⟩ = some (.int .i64 l) := hcell 0 _ rfl
  have c1 : w1.cell? ⟨w.heap.size, 1, none⟩ = some (.int .i64 i) := hcell 1 _ rfl
  have c2 : w1.cell? ⟨w.heap.size, 2, none⟩ = some (.int .i64 x) := hcell 2 _ rfl
  clear hb hcell
  by_cases hf : fitT l i x = true
  · rw [hf]
    have hbd := fit_all hf
    obtain ⟨l, rfl⟩ := Int.eq_ofNat_of_zero_le (a := l) (by omega)
    obtain ⟨i, rfl⟩ := Int.eq_ofNat_of_zero_le (a := i) (by omega)
    have hlt : min 4 (((n / 2 ^ (2 * l) : Nat) : Int) - 4 * (i : Int)) < x ∧ (makeR n ps (l : Int) (i : Int) x).2 = 5 := by
      unfold makeR at he ⊢
      rw [hf, if_pos rfl] at he ⊢
      simp only [Int.toNat_natCast] at he ⊢
      by_cases h : min 4 (((n / 2 ^ (2 * l) : Nat) : Int) - 4 * (i : Int)) < x
      · rw [if_pos h]
        exact ⟨by omega, rfl⟩
      · rw [if_neg h] at he
        exact absurd rfl he
    obtain ⟨hlt, he5⟩ := hlt
    have HE := Lib.hid he5
    clear he5
    have k0 := cell_regrown c0
    have k1 := cell_regrown c1
    have k2 := cell_regrown c2
    generalize hM : min 4 (((n / 2 ^ (2 * l) : Nat) : Int) - 4 * (i : Int)) = M at hlt
    have cW : ∀ d os, Calls Tryd.prog 35 #[.int .i64 n, .int .i64 l, .int .i64 i] (grow (redrawn w1 d) os) fun e w'' => e = .returned (.int .i64 M) ∧ ∃ p : Regrown, w'' = grow (redrawn w1 p.d) p.os :=
      fun d os => Calls.regrown_of ((width_any n l i _ (by omega) (by omega) (by omega)).mono fun e w' h => ⟨hM ▸ h.1, h.2 ▸ Below.refl _ _⟩)
    have HM := Lib.hid hM
    clear hM he
    go_wp2_with fail
    refine wp_region_quiet_below (by kernel_rfl) (by kernel_rfl) ?_
    repeat quiet_step (with_reducible exact cW _ _)
    refine wpQuiet_nil ?_
    intro w2 hw2
    obtain ⟨⟨dq, osq⟩, hw''⟩ := hw2
    have hb2 : Below w1.heap.size w1 w2 := by rw [hw'']; exact below_regrown w1 dq osq
    have HB2 := Lib.hid (HB.out.trans (hb2.mono (by omega)))
    clear hw'' cW k0 k1 k2 c0 c1 hb2
    go_wp2_with fail
    go_ret2
    exact ⟨by rw [HE.out]; rfl, HB2.out⟩
  · have hf : fitT l i x = false := by simpa using hf
    rw [hf]
    go_wp2_with fail
    go_ret2
    exact ⟨by rw [makeR, hf]; rfl, HB.out⟩

/-- the program's Make, whatever the tile. -/
theorem make_all (v : Value) (n : Nat) (ps : Nat → ByteArray) (l i x : Int) (w : World) (hn : n ≤ 1000) (hv : HashS w v n ps) :
    Calls Tryd.prog 13 #[v, .agg #[.int .i64 l, .int .i64 i, .int .i64 x]] w fun e w' => e = .returned (.tuple #[.string (makeR n ps l i x).1, .int .i64 (makeR n ps l i x).2]) ∧ Below w.heap.size w w' := by
  by_cases hf : fitT l i x = true
  · have hbd := fit_all hf
    obtain ⟨l, rfl⟩ := Int.eq_ofNat_of_zero_le (a := l) (by omega)
    obtain ⟨i, rfl⟩ := Int.eq_ofNat_of_zero_le (a := i) (by omega)
    obtain ⟨x, rfl⟩ := Int.eq_ofNat_of_zero_le (a := x) (by omega)
    by_cases h : min 4 (((n / 2 ^ (2 * l) : Nat) : Int) - 4 * (i : Int)) < x
    · have h2 : makeR n ps (l : Int) (i : Int) (x : Int) = (⟨#[]⟩, 5) := by
        unfold makeR
        rw [hf, if_pos rfl]
        simp only [Int.toNat_natCast]
        rw [if_pos h]
      have := make_no v n ps l i x w hn hv (by rw [h2]; decide)
      rw [h2] at this ⊢
      exact this
    · have h2 : makeR n ps (l : Int) (i : Int) (x : Int) = (makeT ps (4 ^ l) (4 * i) x, 0) := by
        unfold makeR
        rw [hf, if_pos rfl]
        simp only [Int.toNat_natCast]
        rw [if_neg h]
      obtain ⟨ao, cap, rfl, hcap, hc2, hsz, hc⟩ := hv
      have hn0 : 0 < n := by
        have : n / 2 ^ (2 * l) ≤ n := Nat.div_le_self _ _
        omega
      obtain ⟨pb, rfl, hcell⟩ := hc hn0
      rw [h2]
      exact make_any n pb cap ps l i x w hn hcap hc2 hcell hsz hf (by omega)
  · have hf : fitT l i x = false := by simpa using hf
    have h2 : makeR n ps l i x = (⟨#[]⟩, 1) := by unfold makeR; rw [hf]; rfl
    have := make_no v n ps l i x w hn hv (by rw [h2]; decide)
    rw [h2] at this ⊢
    exact this
end Go.Proofs.YtobepddifflpdaaDoor
