import Derived.Test.YtobepddifflpdaaDoorTlL
set_option linter.unusedVariables false
namespace Go.Proofs.YtobepddifflpdaaDoor
open Go Go.RowKit Go.Lib Go.Sort

theorem tz64_core (x k idx : Nat) (w : World) (hx0 : ((x : Int) == 0) = false)
    (key : IntKind.u64.wrap (bits BinOp.and IntKind.u64 (x : Int) (IntKind.u64.wrap (-(x : Int))) * 285870213051353865) / 288230376151711744 = (idx : Int))
    (hi : idx < 64) (hk : k < 64) (hcell : w.cell? ⟨1, idx, none⟩ = some (.int .u8 k)) :
    Calls Tryd.prog 87 #[.int .u64 x] w fun e w' => e = .returned (.int .i64 k) ∧ w' = w := by
  go_enter Tryd.func87, Tryd.ntmps87
  go_wp2_with (simp only [key])
  go_ret
  exact ⟨rfl, rfl⟩
def idxOf (j : Nat) : Nat := (2 ^ j * 285870213051353865 % 18446744073709551616) / 288230376151711744
theorem tz_key : ∀ j : Nat, j ≤ 20 → IntKind.u64.wrap (bits BinOp.and IntKind.u64 ((2 ^ j : Nat) : Int) (IntKind.u64.wrap (-((2 ^ j : Nat) : Int))) * 285870213051353865) / 288230376151711744 = (idxOf j : Int) ∧ idxOf j < 64 ∧ bruTab.getD (idxOf j) 0 = (j : Int) := by
  intro j hj
  have : ∀ j : Fin 21, IntKind.u64.wrap (bits BinOp.and IntKind.u64 ((2 ^ j.val : Nat) : Int) (IntKind.u64.wrap (-((2 ^ j.val : Nat) : Int))) * 285870213051353865) / 288230376151711744 = (idxOf j.val : Int) ∧ idxOf j.val < 64 ∧ bruTab.getD (idxOf j.val) 0 = (j.val : Int) := by decide +kernel
  exact this ⟨j, by omega⟩
theorem tz64_pow (j : Nat) (hj : j ≤ 20) (w : World) (hT : Tabs w) : Calls Tryd.prog 87 #[.int .u64 ((2 ^ j : Nat) : Int)] w fun e w' => e = .returned (.int .i64 j) ∧ w' = w := by
  obtain ⟨h1, h2, h3⟩ := tz_key j hj
  have hc := hT.bru.cell gBru (idxOf j) h2
  rw [h3] at hc
  refine tz64_core (2 ^ j) j (idxOf j) w ?_ h1 h2 (by omega) hc
  have := Nat.two_pow_pos j
  exact beq_eq_false_iff_ne.2 (by omega)
set_option maxRecDepth 100000 in
theorem tz_pow (j : Nat) (hj : j ≤ 20) (w : World) (hT : Tabs w) : Calls Tryd.prog 72 #[.int .u64 ((2 ^ j : Nat) : Int)] w fun e w' => e = .returned (.int .i64 j) ∧ w' = w := by
  have c64 := tz64_pow j hj w hT
  have h20 : 2 ^ j ≤ 2 ^ 20 := Nat.pow_le_pow_right (by omega) hj
  obtain ⟨x, hx⟩ : ∃ x, x = 2 ^ j := ⟨_, rfl⟩
  rw [← hx] at c64 h20 ⊢
  have hw : IntKind.u64.wrap (x : Int) = (x : Int) := by rw [IntKind.wrap_u64]; omega
  clear hx
  go_enter Tryd.func72, Tryd.ntmps72
  go_wp2_with fail
  refine c64.mono ?_
  rintro e w1 ⟨rfl, rfl⟩
  go_wp2_with fail
  go_ret
  exact ⟨rfl, rfl⟩

theorem catN_zero (ps : Nat → ByteArray) : catN ps 0 = ⟨#[]⟩ := rfl
theorem root_zero (w : World) : Calls Tryd.prog 39 #[.slice none 0 0] w fun e w' => e = .returned (.string (shaB ⟨#[]⟩)) ∧ Below w.heap.size w w' := by
  have hs := sum_any none 0 0 (fun _ => ⟨#[]⟩) w (fun i hi => absurd hi (by omega)) (by decide) (by rw [catN_zero]; decide)
  rw [catN_zero] at hs
  go_enter Tryd.func39, Tryd.ntmps39
  go_wp2_with fail
  refine hs.mono ?_
  rintro e w1 ⟨rfl, hb⟩
  have HB := Lib.hid hb
  clear hb hs
  go_wp2_with fail
  go_ret
  exact ⟨rfl, HB.out⟩

/-- a shift to the right whose number is known, as one step. -/
theorem wpList_shr {P : Program} (w : World) {ops : Array Oper} {rest : List Oper} {o : Oper} {a : Act} {Q : Exit → Act → World → Prop} (hgd : o.guard = none) (x y : Operand) (t te : TypeId) (m k u : Int)
    (ho : o.op = .binOp .shr t x y te) (hx : a.eval x = .int .i64 m) (hy : a.eval y = .int .i64 k) (h0 : 0 ≤ k) (h1 : k ≤ 64) (hu : m / 2 ^ k.toNat = u)
    (h : wpList P ops Q rest (a.put o.dst (.int .i64 u)) w) : wpList P ops Q (o :: rest) a w := by
  refine wpList_plain hgd fun K hK => ?_
  unfold Oper.wp execOp
  simp only [ho, hx, hy, binOp, shift_shr .i64 .i64 m k h0 h1, hu, Sem.run_bind, Sem.run_pure]
  exact hK _ _ h
theorem bitLen_log (m : Nat) (h1 : 1 ≤ m) (h2 : m ≤ 1024) : Lib.bitLen m = Nat.log2 m + 1 := by
  have : ∀ m : Fin 1025, 1 ≤ m.val → Lib.bitLen m.val = Nat.log2 m.val + 1 := by decide +kernel
  exact this ⟨m, by omega⟩ h1
theorem and_pow : ∀ m : Nat, 1 ≤ m → m ≤ 1024 → (bits BinOp.and IntKind.i64 (m : Int) ((m : Int) - 1) = 0 ↔ m = 2 ^ Nat.log2 m) := by
  intro m h1 h2
  have : ∀ m : Fin 1025, 1 ≤ m.val → (bits BinOp.and IntKind.i64 (m.val : Int) ((m.val : Int) - 1) = 0 ↔ m.val = 2 ^ Nat.log2 m.val) := by decide +kernel
  exact this ⟨m, by omega⟩ h1

set_option maxRecDepth 100000 in
set_option maxHeartbeats 1000000 in
theorem rroot_any (Z : Src) (rb kb n : Nat) (V : Nat → Nat → ByteArray) (hV : Vals Z n V) : ∀ (m a : Nat) (w : World) (e : Int) (s : Z.σ), Rd Z rb kb n w e s → Cut a m → a + m ≤ n → (Z.log s).length + 2 * m ≤ 600000000 →
    Calls Tryd.prog 45 #[.pointer (some ⟨rb, 0, none⟩), .int .i64 a, .int .i64 ((a + m : Nat) : Int)] w (RdPost Z rb kb n (2 * m) (rootV V a m) w e s) := by
  intro m
  induction m using Nat.strongRecOn with
  | _ m ih =>
    intro a w e s hR hcut han hlog
    have HR := Lib.hid hR
    have IH := Lib.hid ih
    have HC := Lib.hid hcut
    have hn := hR.nle
    clear hR ih hcut
    obtain ⟨b, hb⟩ : ∃ b, b = a + m := ⟨_, rfl⟩
    rw [← hb]
    by_cases h0 : m = 0
    · subst h0
      have hba : b = a := by omega
      clear hb han hlog IH
      subst hba
      go_enter Tryd.func45, Tryd.ntmps45
      go_wp2_with fail
      refine (root_zero w).mono ?_
      rintro en w1 ⟨rfl, hb1⟩
      have HL := Lib.hid ((Left.refl 0 HR.out).below hb1)
      clear hb1
      go_wp2_with fail
      go_ret
      exact ⟨_, e, s, rfl, HL.out, fun _ => by rw [rootV_zero], by rw [shaB_size]; omega⟩
    · have hba : ¬ (b : Int) = (a : Int) := by omega
      have hsub : (b : Int) - (a : Int) = (m : Int) := by omega
      obtain ⟨hp1, hp2⟩ := between m (by omega)
      have hap := and_pow m (by omega) (by omega)
      have hHB := Lib.hid hb
      clear hb
      obtain ⟨j, hj⟩ : ∃ j, j = Nat.log2 m := ⟨_, rfl⟩
      rw [← hj] at hp1 hp2 hap
      have hj10 : j ≤ 10 := by
        rcases Nat.lt_or_ge 10 j with h | h
        · have := Nat.pow_le_pow_right (n := 2) (by omega) h
          omega
        · exact h
      by_cases hpow : m = 2 ^ j
      · have hand := hap.2 hpow
        have hw64 : IntKind.u64.wrap (m : Int) = (m : Int) := by rw [IntKind.wrap_u64]; omega
        have HP := Lib.hid hpow
        clear hap hp1 hp2 hj hpow
        go_enter Tryd.func45, Tryd.ntmps45
        go_wp2_with fail
        have ht := tz_pow j (by omega) w HR.out.tabs
        rw [← HP.out] at ht
        refine ht.mono ?_
        rintro en w1 ⟨rfl, rfl⟩
        have hdv : 2 ^ j ∣ a := cut_pow (HP.out ▸ HC.out)
        obtain ⟨k, hk⟩ : ∃ k, k = a / 2 ^ j := ⟨_, rfl⟩
        have hkj : k * 2 ^ j = a := by rw [hk]; exact Nat.div_mul_cancel hdv
        have hsh : (a : Int) / 2 ^ (j : Int).toNat = (k : Int) := by
          rw [hk, Int.natCast_ediv, Int.natCast_pow]
          rfl
        have HSH := Lib.hid hsh
        have HK := Lib.hid hk
        have hkn : (k + 1) * 2 ^ j ≤ n := by rw [Nat.add_mul, Nat.one_mul, hkj, ← HP.out]; exact han
        have HKN := Lib.hid hkn
        clear ht hdv hk hkj hsh hkn hand hw64
        go_wp2_with (first
          | (refine wpList_shr _ rfl _ _ _ _ (a : Int) (j : Int) (k : Int) rfl rfl rfl (by omega) (by omega) HSH.out ?_)
          | fail)
        refine (node_all Z rb kb n j k V hV w1 e s HR.out (by omega) HKN.out (by omega)).mono ?_
        rintro en w2 ⟨t, e2, s2, rfl, hL2, hv2, ht2⟩
        have HL2 := Lib.hid hL2
        have HV2 := Lib.hid hv2
        clear hL2 hv2
        go_wp2_with fail
        go_ret
        refine ⟨t, e2, s2, rfl, HL2.out.mono (by omega), fun h => ?_, ht2⟩
        rw [HV2.out h, HP.out, rootV_pow, HK.out]
      · have hlt : 2 ^ j < m := by omega
        obtain ⟨c, hc⟩ : ∃ c, bits BinOp.and IntKind.i64 (m : Int) ((m : Int) - 1) = c := ⟨_, rfl⟩
        have hc0 : ¬ c = 0 := fun h => hpow (hap.1 (hc.trans h))
        have hw64 : IntKind.u64.wrap (m : Int) = (m : Int) := by rw [IntKind.wrap_u64]; omega
        have hcutl := (cut_left HC.out hlt).1
        have hcutr := cut_right HC.out hlt (Nat.le_of_lt hp2)
        have hV2 := rootV_two V a m j hlt hp2
        have hbl := bitLen_log m (by omega) (by omega)
        rw [← hj] at hbl
        have hlen : ∀ w', Calls Tryd.prog 74 #[.int .u64 (m : Int)] w' fun e w'' => e = .returned (.int .i64 ((j + 1 : Nat) : Int)) ∧ w'' = w' := fun w' =>
          (Tryd.bits_Len m w' (by omega) (by omega)).mono fun e w'' h => ⟨by rw [h.1, Int.toNat_natCast, hbl], h.2⟩
        obtain ⟨z, hz⟩ : ∃ z, z = 2 ^ j := ⟨_, rfl⟩
        rw [← hz] at hlt hcutl hcutr hV2
        have hzp : 0 < z := by rw [hz]; exact Nat.two_pow_pos _
        have hsl : IntKind.i64.wrap ((1 : Int) * 2 ^ (j : Int).toNat) = (z : Int) := by
          rw [Int.one_mul, Int.toNat_natCast, two_pow_of hz]
          exact IntWalk.i64_in _ (by omega)
        have HSL := Lib.hid hsl
        obtain ⟨a2, ha2⟩ : ∃ a2, a2 = a + z := ⟨_, rfl⟩
        obtain ⟨m2, hm2⟩ : ∃ m2, m2 = m - z := ⟨_, rfl⟩
        rw [← ha2, ← hm2] at hcutr hV2
        have hba2 : b = a2 + m2 := by have := hHB.out; omega
        have hs2 : (a : Int) + (z : Int) = (a2 : Int) := by omega
        have HB2 := Lib.hid hba2
        have HA2 := Lib.hid ha2
        have HV := Lib.hid hV2
        have HCL := Lib.hid hcutl
        have HCR := Lib.hid hcutr
        obtain ⟨j1, hj1⟩ : ∃ j1, j1 = j + 1 := ⟨_, rfl⟩
        rw [← hj1] at hlen
        have hj2 : (j1 : Int) - 1 = (j : Int) := by omega
        have hlast : a2 + m2 ≤ n ∧ m2 < m ∧ a + z ≤ n ∧ z + m2 = m := by omega
        have HLast := Lib.hid hlast
        clear hap hp1 hp2 hj hpow hz hsl ha2 hm2 hV2 hcutl hcutr hbl hba2 hj1 hlast
        go_enter Tryd.func45, Tryd.ntmps45
        go_wp2_with fail
        refine (hlen w).mono ?_
        rintro en w1 ⟨rfl, rfl⟩
        go_wp2_with (first
          | (refine wpList_shl _ rfl _ _ _ _ (1 : Int) (j : Int) (z : Int) rfl rfl rfl (by omega) (by omega) HSL.out ?_)
          | fail)
        have h1 := IH.out z hlt a w1 e s HR.out HCL.out HLast.out.2.2.1 (by omega)
        rw [← HA2.out] at h1
        refine h1.mono ?_
        rintro en w2 ⟨t1, e1, s1, rfl, hL1, hv1, ht1⟩
        have HL1 := Lib.hid hL1
        have HV1 := Lib.hid hv1
        have hlen1 := hL1.ev.len
        clear hL1 hv1 h1 hlen
        go_wp2_with fail
        have h2 := IH.out m2 HLast.out.2.1 a2 w2 e1 s1 HL1.out.rd HCR.out HLast.out.1 (by have := HLast.out; omega)
        rw [← HB2.out] at h2
        refine h2.mono ?_
        rintro en w3 ⟨t2, e2, s2, rfl, hL2, hv2, ht2⟩
        have HL2 := Lib.hid (HL1.out.trans hL2)
        have HZ := Lib.hid hL2.ev.zero
        have HV2 := Lib.hid hv2
        clear hL2 hv2 h2
        go_wp2_with fail
        refine (node_any t1 t2 w3 ht1 ht2).mono ?_
        rintro en w4 ⟨rfl, hb4⟩
        have HL4 := Lib.hid (HL2.out.below hb4)
        clear hb4
        go_wp2_with fail
        go_ret
        refine ⟨nodeB t1 t2, e2, s2, rfl, HL4.out.mono (by have := HLast.out; omega), fun h => ?_, by unfold nodeB; rw [shaB_size]; omega⟩
        rw [HV.out, HV1.out (HZ.out h), HV2.out h]
end Go.Proofs.YtobepddifflpdaaDoor
