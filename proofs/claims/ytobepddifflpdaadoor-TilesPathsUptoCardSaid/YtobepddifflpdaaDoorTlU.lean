import Derived.Test.YtobepddifflpdaaDoorTlT
set_option linter.unusedVariables false
namespace Go.Proofs.YtobepddifflpdaaDoor
open Go Go.RowKit Go.Lib Go.Sort

def OwnR (w : World) (base : Nat) (v : Value) (l : List (Nat × Nat × Nat)) : Prop := OwnL 28 3 mkT w base v l
theorem infoR : (Tryd.prog.info? 28).map (fun i => (i.zero, i.size, i.bytes)) = some (some (.agg #[.int .i64 0, .int .i64 0, .int .i64 0]), 3, 24) := by kernel_rfl
def AllRO (n B : Nat) (w : World) (v l : Value) (wr : World) : Prop :=
  ∃ k : Nat, l = .int .i64 k ∧ k ≤ 6 ∧ OwnR wr B v ((List.range k).flatMap (lvlT n)) ∧ Below B w wr
def AllRN (n k B : Nat) (w : World) (v i : Value) (wr : World) : Prop :=
  ∃ j : Nat, i = .int .i64 j ∧ j ≤ (n / 2 ^ (2 * k) + 3) / 4 ∧ OwnR wr B v ((List.range k).flatMap (lvlT n) ++ (List.range j).map fun i => (k, i, min 4 (n / 2 ^ (2 * k) - 4 * i))) ∧ Below B w wr

set_option maxRecDepth 100000 in
set_option maxHeartbeats 1000000 in
theorem refall_nat (n : Nat) (w : World) (h1 : 1 ≤ n) (hn : n ≤ 1024) :
    Calls Tryd.prog 16 #[.int .i64 n] w fun e w' => ∃ v, e = .returned v ∧ OwnR w' w.heap.size v (allT n) ∧ Below w.heap.size w w' := by
  obtain ⟨i0, hi, hz0, hz1, hz2⟩ := info_parts infoR
  have HI2 := Lib.hid hz2
  clear hz2
  go_enter Tryd.func16, Tryd.ntmps16
  go_wp2_with fail
  go_loopw [3, 4] (fun v l wr => AllRO n w.heap.size w v l wr) (fun _ l _ => 7 - (RowKit.intOf l).toNat)
  case atStart => exact ⟨0, rfl, by omega, ownL_nil _ _, Below.refl _ _⟩
  case round =>
    obtain ⟨k, rfl, hk, hown, hbel⟩ := hrel
    have HO := Lib.hid hown
    have HB := Lib.hid hbel
    clear hown hbel
    have hnodes := fun w' => refnodes_any n k w' (by omega) (by omega)
    obtain ⟨N, hN⟩ : ∃ N, N = n / 2 ^ (2 * k) := ⟨_, rfl⟩
    rw [← hN] at hnodes
    have hNn : N ≤ n := by rw [hN]; exact Nat.div_le_self _ _
    have HN := Lib.hid hN
    clear hN
    go_wp2_with fail
    refine (hnodes wr).mono ?_
    rintro e w1 ⟨rfl, rfl⟩
    by_cases hpos : 0 < N
    · have hpos' : (0 : Int) < (N : Int) := by omega
      have hk5 : k ≤ 5 := level_le hn (by rw [← HN.out]; exact hpos)
      go_wp2_with fail
      clear hnodes
      have HO0 := HO
      have HB0 := HB
      clear HO HB
      generalize w1 = wo at HO0 HB0 ⊢
      go_loopw [3, 5] (fun v i wr => AllRN n k w.heap.size w v i wr) (fun _ i _ => N - (RowKit.intOf i).toNat)
      case atStart => exact ⟨0, rfl, Nat.zero_le _, by rw [List.range_zero, List.map_nil, List.append_nil]; exact HO0.out, HB0.out⟩
      case round =>
        obtain ⟨j, rfl, hj, hown, hbel⟩ := hrel
        have HO := Lib.hid hown
        have HB := Lib.hid hbel
        clear hown hbel HO0 HB0
        rw [← HN.out] at hj
        have hw0 := fun w' => refwidth_any n k j w' (by omega) (by omega) (by omega)
        rw [← HN.out] at hw0
        have hlen := prefix_length n k hn (by omega)
        by_cases hlt : 4 * j < N
        · obtain ⟨x, hx⟩ : ∃ x : Nat, x = min 4 (N - 4 * j) := ⟨_, rfl⟩
          have hxi : max 0 (min 4 ((N : Int) - 4 * (j : Int))) = (x : Int) := by omega
          rw [hxi] at hw0
          have hx0 : (0 : Int) < (x : Int) := by omega
          have HX := Lib.hid hx
          clear hx hxi
          go_wp2_with fail
          refine (hw0 wr).mono ?_
          rintro e w2 ⟨rfl, rfl⟩
          go_wp2_with fail
          refine (hw0 w2).mono ?_
          rintro e w3 ⟨rfl, rfl⟩
          have hmk : mkT (k, j, x) = [.int .i64 k, .int .i64 j, .int .i64 x] := rfl
          go_wp2_with (first | (at_builtin; refine wpList_appL _ rfl _ _ 25 rfl i0 (.agg #[.int .i64 0, .int .i64 0, .int .i64 0]) 24 Tryd.underlying25 hi hz0 hz1 HI2.out rfl (by decide) w.heap.size _ _ rfl (HO.out.alloc _) (k, j, x) rfl ⟨w3.heap.size, 0, none⟩ 1 rfl (mkT_cells w3 k j x _) (mkT_one _) ?_ (by decide) ?_ ?_) | fail)
          · rw [List.length_append, List.length_map, List.length_range]; omega
          · rw [size_alloc]; have := HB.out.size; omega
          intro v4 w4 ho4 hg4 _
          have hB4 : Below w.heap.size w w4 := (HB.out.alloc HB.out.size _).grown hg4 (by rw [size_alloc]; have := HB.out.size; omega) (fun g hg => (HO.out.lt g hg).1)
          have HO4 := Lib.hid ho4
          have HB4 := Lib.hid hB4
          clear ho4 hg4 hB4 hw0
          go_wp2_with fail
          refine ⟨⟨j + 1, rfl, by rw [← HN.out]; omega, ?_, HB4.out⟩, ?_⟩
          · have := HO4.out
            rw [HX.out, HN.out] at this
            refine (congrArg (fun L => OwnR w4 w.heap.size v4 L) ?_).mp this
            rw [List.range_succ, List.map_append]
            simp
          · show N - ((j : Int) + 1).toNat < N - (j : Int).toNat
            omega
        · have hx0 : ¬ (0 : Int) < max 0 (min 4 ((N : Int) - 4 * (j : Int))) := by omega
          go_wp2_with fail
          refine (hw0 wr).mono ?_
          rintro e w2 ⟨rfl, rfl⟩
          clear hw0
          go_wp2_with fail
          refine ⟨⟨k + 1, rfl, by omega, ?_, HB.out⟩, ?_⟩
          · have := HO.out
            obtain rfl : j = (N + 3) / 4 := by omega
            rw [List.range_succ, List.flatMap_append]
            simp only [List.flatMap_cons, List.flatMap_nil, List.append_nil]
            unfold lvlT
            rw [← HN.out]
            rw [← HN.out] at this
            exact this
          · show 7 - ((k : Int) + 1).toNat < 7 - (k : Int).toNat
            omega
    · have hpos' : ¬ (0 : Int) < (N : Int) := by omega
      go_wp2_with fail
      go_ret
      refine ⟨_, rfl, ?_, HB.out⟩
      rw [← all_prefix hk (by rw [← HN.out]; omega)]
      exact HO.out

theorem refall_none (n : Int) (w : World) (h : n < 1 ∨ 1024 < n) :
    Calls Tryd.prog 16 #[.int .i64 n] w fun e w' => ∃ v, e = .returned v ∧ OwnR w' w.heap.size v [] ∧ Below w.heap.size w w' := by
  by_cases h1 : n < 1
  · go_enter Tryd.func16, Tryd.ntmps16
    go_wp2_with fail
    go_ret
    exact ⟨_, rfl, ownL_nil _ _, Below.refl _ _⟩
  · have h2 : 1024 < n := by omega
    go_enter Tryd.func16, Tryd.ntmps16
    go_wp2_with fail
    go_ret
    exact ⟨_, rfl, ownL_nil _ _, Below.refl _ _⟩
theorem refall_any (n : Int) (w : World) : Calls Tryd.prog 16 #[.int .i64 n] w fun e w' => ∃ v, e = .returned v ∧ OwnR w' w.heap.size v (allI n) ∧ Below w.heap.size w w' := by
  unfold allI
  by_cases h : 1 ≤ n ∧ n ≤ 1024
  · rw [if_pos h]
    obtain ⟨m, rfl⟩ := Int.eq_ofNat_of_zero_le (a := n) (by omega)
    exact refall_nat m w (by omega) (by omega)
  · rw [if_neg h]
    exact refall_none n w (by omega)
end Go.Proofs.YtobepddifflpdaaDoor
