import Derived.Test.YtobepddifflpdaaDoorTlO
import Derived.Test.YtobepddifflpdaaDoorShelf
import Derived.Lib.QuietBelow
set_option linter.unusedVariables false
namespace Go.Proofs.YtobepddifflpdaaDoor
open Go Go.RowKit Go.Lib Go.Sort

theorem itoa_small (i : Nat) (hi : i < 100) : Lib.itoa (i : Int) = Lib.decDigits i := by
  unfold Lib.itoa
  rw [if_neg (by omega)]
  rfl

theorem dec_len : ∀ u : Nat, (Lib.decDigits u).length ≤ u + 1 := by
  intro u
  induction u using Nat.strongRecOn with
  | _ u ih =>
    rw [Lib.decDigits]
    split
    · simp
    · have := ih (u / 10) (by omega)
      rw [List.length_append]
      simp only [List.length_cons, List.length_nil]
      omega
theorem itoaB_le (n : Int) (h0 : 0 ≤ n) : (itoaB n).size ≤ n.toNat + 1 := by
  unfold itoaB Lib.itoa
  rw [if_neg (by omega)]
  exact dec_len _

/-- strconv.Itoa answers n in every later world. -/
def ItoaOk (n : Int) (w : World) : Prop := ∀ w', Below w.heap.size w w' → Calls Tryd.prog 28 #[.int .i64 n] w' fun e w'' => e = .returned (.string (itoaB n)) ∧ Below w'.heap.size w' w''
theorem itoaOk_small (i : Nat) (hi : i < 100) (w : World) : ItoaOk (i : Int) w := fun w' _ => (Tryd.strconv_Itoa_small i hi w').mono fun e w'' h => by
  obtain ⟨rfl, rfl⟩ := h
  exact ⟨by rw [itoaB, itoa_small i hi], Below.refl _ _⟩

set_option maxRecDepth 100000 in
theorem path_any (l i x : Int) (w : World) (hl : fitT l i x = true → ItoaOk l w) (hi : fitT l i x = true → ItoaOk i w) (hx : fitT l i x = true → ItoaOk x w) :
    Calls Tryd.prog 31 #[.agg #[.int .i64 l, .int .i64 i, .int .i64 x]] w fun e w' => e = .returned (.string (pathT l i x)) ∧ Below w.heap.size w w' := by
  have HL := Lib.hid hl
  have HI := Lib.hid hi
  have HX := Lib.hid hx
  clear hl hi hx
  go_enter Tryd.func31, Tryd.ntmps31
  go_wp2_with fail
  refine (fit_any l i x _).mono ?_
  rintro e w1 ⟨rfl, hb⟩
  have hsz1 : w.heap.size + 1 ≤ w1.heap.size := by have := hb.size; rwa [size_alloc] at this
  have HB := Lib.hid ((Below.refl w.heap.size w).alloc (Nat.le_refl _) _ |>.trans (hb.mono (by rw [size_alloc]; omega)))
  have hcell : ∀ j v, #[Value.int .i64 l, .int .i64 i, .int .i64 x][j]? = some v → w1.cell? ⟨w.heap.size, j, none⟩ = some v := fun j v hv =>
    (hb.cell (p := ⟨w.heap.size, j, none⟩) (by rw [size_alloc]; exact Nat.lt_succ_self _)).trans (cell_of_blk (blk_new w _) j hv)
  have c0 : w1.cell? ⟨w.heap.size, 0, none⟩ = some (.int .i64 l) := hcell 0 _ rfl
  have c1 : w1.cell? ⟨w.heap.size, 1, none⟩ = some (.int .i64 i) := hcell 1 _ rfl
  have c2 : w1.cell? ⟨w.heap.size, 2, none⟩ = some (.int .i64 x) := hcell 2 _ rfl
  clear hb hcell
  by_cases hf : fitT l i x = true
  · rw [hf]
    have hbd : 0 ≤ l ∧ l ≤ 30 ∧ 0 ≤ i ∧ i ≤ 1099511627776 ∧ 1 ≤ x ∧ x ≤ 4 := by
      unfold fitT at hf
      simp only [Bool.and_eq_true, decide_eq_true_eq] at hf
      omega
    have k0 := cell_regrown c0
    have k1 := cell_regrown c1
    have k2 := cell_regrown c2
    have cL : ∀ d os, Calls Tryd.prog 28 #[.int .i64 l] (grow (redrawn w1 d) os) fun e w'' => e = .returned (.string (itoaB l)) ∧ ∃ p : Regrown, w'' = grow (redrawn w1 p.d) p.os :=
      fun d os => Calls.regrown_of (HL.out hf _ (HB.out.trans ((below_regrown w1 d os).mono (by omega))))
    have cI : ∀ d os, Calls Tryd.prog 28 #[.int .i64 i] (grow (redrawn w1 d) os) fun e w'' => e = .returned (.string (itoaB i)) ∧ ∃ p : Regrown, w'' = grow (redrawn w1 p.d) p.os :=
      fun d os => Calls.regrown_of (HI.out hf _ (HB.out.trans ((below_regrown w1 d os).mono (by omega))))
    have b1 := itoaB_le l (by omega)
    have b2 := itoaB_le i (by omega)
    have b3 := itoaB_le x (by omega)
    have n1 : ¬ 9223372036854775807 < 5 + (itoaB l).size := by omega
    have n2 : ¬ 9223372036854775807 < 5 + (itoaB l).size + 1 := by omega
    have n3 : ¬ 9223372036854775807 < 5 + (itoaB l).size + 1 + (itoaB i).size := by omega
    go_wp2_with fail
    refine wp_region_quiet_below (by kernel_rfl) (by kernel_rfl) ?_
    repeat quiet_step (first | with_reducible exact cL _ _ | with_reducible exact cI _ _)
    refine wpQuiet_nil ?_
    intro w2 hw2
    obtain ⟨⟨dq, osq⟩, hw''⟩ := hw2
    have hb2 : Below w1.heap.size w1 w2 := by rw [hw'']; exact below_regrown w1 dq osq
    have HB2 := Lib.hid (HB.out.trans (hb2.mono (by omega)))
    have d2 : w2.cell? ⟨w.heap.size, 2, none⟩ = some (.int .i64 x) := (hb2.cell (p := ⟨w.heap.size, 2, none⟩) (by show w.heap.size < w1.heap.size; omega)).trans c2
    clear hw'' cL cI k0 k1 k2 c0 c1 c2 n1 n2 n3
    by_cases hx4 : x < 4
    · go_wp2_with fail
      refine (HX.out hf w2 HB2.out).mono ?_
      rintro e w3 ⟨rfl, hb3⟩
      have hsz2 : w.heap.size ≤ w2.heap.size := HB2.out.size
      have HB3 := Lib.hid (HB2.out.trans (hb3.mono hsz2))
      clear hb3 hb2
      have n1 : ¬ 9223372036854775807 < 3 + (itoaB x).size := by omega
      have n2 : ¬ 9223372036854775807 < 5 + (itoaB l).size + 1 + (itoaB i).size + (3 + (itoaB x).size) := by omega
      have n3 : ¬ 9223372036854775807 < 5 + (itoaB l).size + 1 + (itoaB i).size + 3 := by omega
      have n4 : ¬ 9223372036854775807 < 5 + (itoaB l).size + 1 + (itoaB i).size + 3 + (itoaB x).size := by omega
      go_wp2_with fail
      go_ret
      refine ⟨?_, HB3.out⟩
      rw [pathT, hf, if_pos rfl, if_pos hx4]
      try rw [← ByteArray.append_assoc]
      rfl
    · go_wp2_with fail
      go_ret
      refine ⟨?_, HB2.out⟩
      rw [pathT, hf, if_pos rfl, if_neg (show ¬ x < 4 by omega)]
      rfl
  · have hf : fitT l i x = false := by simpa using hf
    rw [hf]
    go_wp2_with fail
    go_ret
    exact ⟨by rw [pathT, hf]; rfl, HB.out⟩

set_option maxRecDepth 100000 in
theorem refpath_any (l i x : Int) (w : World) (hl : fitT l i x = true → ItoaOk l w) (hi : fitT l i x = true → ItoaOk i w) (hx : fitT l i x = true → ItoaOk x w) :
    Calls Tryd.prog 17 #[.agg #[.int .i64 l, .int .i64 i, .int .i64 x]] w fun e w' => e = .returned (.string (pathT l i x)) ∧ Below w.heap.size w w' := by
  have HL := Lib.hid hl
  have HI := Lib.hid hi
  have HX := Lib.hid hx
  clear hl hi hx
  go_enter Tryd.func17, Tryd.ntmps17
  go_wp2_with fail
  refine (reffit_any l i x _).mono ?_
  rintro e w1 ⟨rfl, hb⟩
  have hsz1 : w.heap.size + 1 ≤ w1.heap.size := by have := hb.size; rwa [size_alloc] at this
  have HB := Lib.hid ((Below.refl w.heap.size w).alloc (Nat.le_refl _) _ |>.trans (hb.mono (by rw [size_alloc]; omega)))
  have hcell : ∀ j v, #[Value.int .i64 l, .int .i64 i, .int .i64 x][j]? = some v → w1.cell? ⟨w.heap.size, j, none⟩ = some v := fun j v hv =>
    (hb.cell (p := ⟨w.heap.size, j, none⟩) (by rw [size_alloc]; exact Nat.lt_succ_self _)).trans (cell_of_blk (blk_new w _) j hv)
  have c0 : w1.cell? ⟨w.heap.size, 0, none⟩ = some (.int .i64 l) := hcell 0 _ rfl
  have c1 : w1.cell? ⟨w.heap.size, 1, none⟩ = some (.int .i64 i) := hcell 1 _ rfl
  have c2 : w1.cell? ⟨w.heap.size, 2, none⟩ = some (.int .i64 x) := hcell 2 _ rfl
  clear hb hcell
  by_cases hf : fitT l i x = true
  · rw [hf]
    have hbd : 0 ≤ l ∧ l ≤ 30 ∧ 0 ≤ i ∧ i ≤ 1099511627776 ∧ 1 ≤ x ∧ x ≤ 4 := by
      unfold fitT at hf
      simp only [Bool.and_eq_true, decide_eq_true_eq] at hf
      omega
    have k0 := cell_regrown c0
    have k1 := cell_regrown c1
    have k2 := cell_regrown c2
    have cL : ∀ d os, Calls Tryd.prog 28 #[.int .i64 l] (grow (redrawn w1 d) os) fun e w'' => e = .returned (.string (itoaB l)) ∧ ∃ p : Regrown, w'' = grow (redrawn w1 p.d) p.os :=
      fun d os => Calls.regrown_of (HL.out hf _ (HB.out.trans ((below_regrown w1 d os).mono (by omega))))
    have cI : ∀ d os, Calls Tryd.prog 28 #[.int .i64 i] (grow (redrawn w1 d) os) fun e w'' => e = .returned (.string (itoaB i)) ∧ ∃ p : Regrown, w'' = grow (redrawn w1 p.d) p.os :=
      fun d os => Calls.regrown_of (HI.out hf _ (HB.out.trans ((below_regrown w1 d os).mono (by omega))))
    have b1 := itoaB_le l (by omega)
    have b2 := itoaB_le i (by omega)
    have b3 := itoaB_le x (by omega)
    have n1 : ¬ 9223372036854775807 < 5 + (itoaB l).size := by omega
    have n2 : ¬ 9223372036854775807 < 5 + (itoaB l).size + 1 := by omega
    have n3 : ¬ 9223372036854775807 < 5 + (itoaB l).size + 1 + (itoaB i).size := by omega
    go_wp2_with fail
    refine wp_region_quiet_below (by kernel_rfl) (by kernel_rfl) ?_
    repeat quiet_step (first | with_reducible exact cL _ _ | with_reducible exact cI _ _)
    refine wpQuiet_nil ?_
    intro w2 hw2
    obtain ⟨⟨dq, osq⟩, hw''⟩ := hw2
    have hb2 : Below w1.heap.size w1 w2 := by rw [hw'']; exact below_regrown w1 dq osq
    have HB2 := Lib.hid (HB.out.trans (hb2.mono (by omega)))
    have d2 : w2.cell? ⟨w.heap.size, 2, none⟩ = some (.int .i64 x) := (hb2.cell (p := ⟨w.heap.size, 2, none⟩) (by show w.heap.size < w1.heap.size; omega)).trans c2
    clear hw'' cL cI k0 k1 k2 c0 c1 c2 n1 n2 n3
    by_cases hx4 : x < 4
    · go_wp2_with fail
      refine (HX.out hf w2 HB2.out).mono ?_
      rintro e w3 ⟨rfl, hb3⟩
      have hsz2 : w.heap.size ≤ w2.heap.size := HB2.out.size
      have HB3 := Lib.hid (HB2.out.trans (hb3.mono hsz2))
      clear hb3 hb2
      have n1 : ¬ 9223372036854775807 < 3 + (itoaB x).size := by omega
      have n2 : ¬ 9223372036854775807 < 5 + (itoaB l).size + 1 + (itoaB i).size + (3 + (itoaB x).size) := by omega
      have n3 : ¬ 9223372036854775807 < 5 + (itoaB l).size + 1 + (itoaB i).size + 3 := by omega
      have n4 : ¬ 9223372036854775807 < 5 + (itoaB l).size + 1 + (itoaB i).size + 3 + (itoaB x).size := by omega
      go_wp2_with fail
      go_ret
      refine ⟨?_, HB3.out⟩
      rw [pathT, hf, if_pos rfl, if_pos hx4]
      try rw [← ByteArray.append_assoc]
      rfl
    · go_wp2_with fail
      go_ret
      refine ⟨?_, HB2.out⟩
      rw [pathT, hf, if_pos rfl, if_neg (show ¬ x < 4 by omega)]
      rfl
  · have hf : fitT l i x = false := by simpa using hf
    rw [hf]
    go_wp2_with fail
    go_ret
    exact ⟨by rw [pathT, hf]; rfl, HB.out⟩

end Go.Proofs.YtobepddifflpdaaDoor
