import Derived.Test.YtobepddifflpdaaDoorTlN
import Derived.Test.YtobepddifflpdaaDoorSl
set_option linter.unusedVariables false
namespace Go.Proofs.YtobepddifflpdaaDoor
open Go Go.RowKit Go.Lib Go.Sort Go.Maps Go.WideMaps

/-- a function value of two numbers that answers R, in every world whose box xb holds m. -/
def Pred2 (xb : Nat) (m : Int) (v : Value) (R : Nat → Nat → Bool) : Prop :=
  ∃ (f : FuncId) (cap : Array Value), v = .func (.func f) #[] cap ∧ (∀ args w, (callFunc f args).run Tryd.prog w = .ok (.enter f args) w) ∧
    ∀ (w : World) (a b : Nat), w.cell? ⟨xb, 0, none⟩ = some (.int .i64 m) → a ≤ 2048 → b ≤ 2048 → Calls Tryd.prog f (#[.int .i64 a, .int .i64 b] ++ cap) w fun e w' => e = .returned (.bool (R a b)) ∧ w' = w

/-- the steps down: what is kept while nothing failed. -/
structure Downs (V : Nat → Nat → ByteArray) (n : Nat) (R M : Nat → Nat → Bool) (J : Nat → Nat → List ByteArray → Bool → Prop) : Prop where
  two : ∀ a b l wh, J a b l wh → M a b = true → a + 2 ≤ b
  right : ∀ a b l wh, J a b l wh → M a b = true → R a (pw (b - a)) = true → J (a + pw (b - a)) b (l ++ [rootV V a (pw (b - a))]) false
  left : ∀ a b l wh, J a b l wh → M a b = true → R a (pw (b - a)) = false → J a (a + pw (b - a)) (l ++ [rootV V (a + pw (b - a)) (b - a - pw (b - a))]) wh

def DnRel (Z : Src) (rb kb n xb B : Nat) (m : Int) (J : Nat → Nat → List ByteArray → Bool → Prop) (w : World) (s : Z.σ) (ta tb tv tw : Value) (wr : World) : Prop :=
  ∃ (a b : Nat) (l : List ByteArray) (wh : Bool) (e : Int) (s' : Z.σ), ta = .int .i64 a ∧ tb = .int .i64 b ∧ tw = .bool wh ∧ a ≤ b ∧ b ≤ n ∧ Cut a (b - a) ∧ OwnS wr B tv l ∧ l.length ≤ n - (b - a) ∧ (∀ x ∈ l, x.size ≤ 10000000000) ∧
    Left Z rb kb n (2 * (n - (b - a))) w 0 s wr e s' ∧ wr.cell? ⟨xb, 0, none⟩ = some (.int .i64 m) ∧ (∀ g, tv.ownBlock = some g → g ≠ rb ∧ g ≠ kb ∧ ¬ Z.R s' g) ∧ (e = 0 → J a b l wh)

def DownPost (Z : Src) (rb kb n B : Nat) (M : Nat → Nat → Bool) (J : Nat → Nat → List ByteArray → Bool → Prop) (w : World) (s : Z.σ) (en : Ending) (w' : World) : Prop :=
  ∃ (a b : Nat) (l : List ByteArray) (wh : Bool) (e : Int) (s' : Z.σ) (v : Value), en = .returned (.tuple #[.int .i64 a, .int .i64 b, v, .bool wh]) ∧ a ≤ b ∧ b ≤ n ∧ Cut a (b - a) ∧ OwnS w' B v l ∧ l.length ≤ n ∧ (∀ x ∈ l, x.size ≤ 10000000000) ∧
    Left Z rb kb n (2 * (n - (b - a))) w 0 s w' e s' ∧ (∀ g, v.ownBlock = some g → g ≠ rb ∧ g ≠ kb ∧ ¬ Z.R s' g) ∧ (e = 0 → J a b l wh ∧ M a b = false)

set_option maxRecDepth 100000 in
set_option maxHeartbeats 2000000 in
theorem down_any (Z : Src) (rb kb n xb : Nat) (m : Int) (V : Nat → Nat → ByteArray) (hV : Vals Z n V) (R M : Nat → Nat → Bool) (J : Nat → Nat → List ByteArray → Bool → Prop) (hJ : Downs V n R M J) (fr fm : Value) (hr : Pred2 xb m fr R) (hm : Pred2 xb m fm M)
    (w : World) (s : Z.σ) (hR : Rd Z rb kb n w 0 s) (hx : w.cell? ⟨xb, 0, none⟩ = some (.int .i64 m)) (hxr : xb ≠ rb) (hxk : xb ≠ kb) (hxS : ¬ Z.R s xb) (h0 : J 0 n [] true) (hlog : (Z.log s).length ≤ 400000000) :
    Calls Tryd.prog 49 #[.pointer (some ⟨rb, 0, none⟩), .int .i64 n, fr, fm] w (DownPost Z rb kb n w.heap.size M J w s) := by
  obtain ⟨i0, hi, hz0, hz1, hz2⟩ := info_parts infoStr
  have HI2 := Lib.hid hz2
  obtain ⟨f1, cap1, rfl, hent1, hcall1⟩ := hr
  obtain ⟨f2, cap2, rfl, hent2, hcall2⟩ := hm
  have HR := Lib.hid hR
  have HX := Lib.hid hx
  have H0 := Lib.hid h0
  have hn := hR.nle
  clear hR hx h0 hz2
  go_enter Tryd.func49, Tryd.ntmps49
  go_wp2_with fail
  go_loopw [8, 9, 10, 11] (fun ta tb tv tw wr => DnRel Z rb kb n xb w.heap.size m J w s ta tb tv tw wr) (fun ta tb _ _ _ => (RowKit.intOf tb).toNat - (RowKit.intOf ta).toNat)
  case atStart => exact ⟨0, n, [], true, 0, s, rfl, rfl, rfl, Nat.zero_le _, Nat.le_refl _, cut_zero _, ownL_nil _ _, Nat.zero_le _, (fun x h => by cases h), (Left.refl _ HR.out), HX.out, (fun g h => by cases h), fun _ => H0.out⟩
  case round =>
    obtain ⟨a, b, l, wh, e, s', rfl, rfl, rfl, hab, hbn, hcut, hown, hll, hls, hL, hbox, hdis, hj⟩ := hrel
    have HO := Lib.hid hown
    have HL := Lib.hid hL
    have HB := Lib.hid hbox
    have HD := Lib.hid hdis
    have HJ := Lib.hid hj
    have HC := Lib.hid hcut
    have HS := Lib.hid hls
    have c2 : wr.cell? ⟨rb, 2, none⟩ = some (.int .i64 e) := cell_of_blk hL.rd.blk 2 rfl
    clear hown hL hbox hdis hj hcut hls
    have hbd : b ≤ 2048 := by omega
    go_wp2_with fail
    refine (hcall2 wr a b HB.out (by omega) hbd).mono ?_
    rintro en wq ⟨rfl, rfl⟩
    cases hM : M a b with
    | false =>
      have HMf := Lib.hid hM
      go_wp2_with fail
      refine bodyPost_ret (v := .tuple #[.int .i64 a, .int .i64 b, u10, .bool wh]) (by simp [results, Tryd.results49, go_sem]) rfl ?_
      exact ⟨a, b, l, wh, e, s', _, rfl, hab, hbn, HC.out, HO.out, by omega, HS.out, HL.out, HD.out, fun h => ⟨HJ.out h, HMf.out⟩⟩
    | true =>
      have HMt := Lib.hid hM
      clear hM
      by_cases he : e = 0
      · subst he
        have HJ0 := Lib.hid (HJ.out rfl)
        clear HJ
        have h2 := hJ.two a b l wh HJ0.out HMt.out
        obtain ⟨D, hD⟩ : ∃ D, D = b - a := ⟨_, rfl⟩
        obtain ⟨D1, hD1⟩ : ∃ D1, D1 = D - 1 := ⟨_, rfl⟩
        have q1 : (b : Int) - (a : Int) = (D : Int) := by omega
        have q2 : (D : Int) - 1 = (D1 : Int) := by omega
        have hw64 : IntKind.u64.wrap (D1 : Int) = (D1 : Int) := by rw [IntKind.wrap_u64]; omega
        obtain ⟨j, hj⟩ : ∃ j, j = Nat.log2 D1 := ⟨_, rfl⟩
        have hbl := bitLen_log D1 (by omega) (by omega)
        rw [← hj] at hbl
        obtain ⟨j1, hj1⟩ : ∃ j1, j1 = j + 1 := ⟨_, rfl⟩
        have hlen : ∀ w', Calls Tryd.prog 74 #[.int .u64 (D1 : Int)] w' fun e w'' => e = .returned (.int .i64 (j1 : Int)) ∧ w'' = w' := fun w' =>
          (Tryd.bits_Len D1 w' (by omega) (by omega)).mono fun e w'' h => ⟨by rw [h.1, Int.toNat_natCast, hbl, hj1], h.2⟩
        have hj2 : (j1 : Int) - 1 = (j : Int) := by omega
        have hj10 : j ≤ 10 := by
          have := Nat.log2_self_le (n := D1) (by omega)
          rw [← hj] at this
          rcases Nat.lt_or_ge 10 j with h | h
          · have := Nat.pow_le_pow_right (n := 2) (by omega) h
            omega
          · exact h
        obtain ⟨k, hk⟩ : ∃ k, k = pw (b - a) := ⟨_, rfl⟩
        have hkp : k = 2 ^ j := by rw [hk, hj, hD1, hD]; rfl
        have hklt : k < D := by rw [hk, hD]; exact pw_lt (by omega)
        have hk0 : 0 < k := by rw [hk]; exact pw_pos _
        have hk2 : D ≤ 2 * k := by rw [hk, hD]; exact pw_le (by omega)
        have hsl : IntKind.i64.wrap ((1 : Int) * 2 ^ (j : Int).toNat) = (k : Int) := by
          rw [Int.one_mul, Int.toNat_natCast, two_pow_of hkp]
          exact IntWalk.i64_in _ (by omega)
        have HSL := Lib.hid hsl
        have hcl : Cut a k := by rw [hkp]; exact (cut_left (hD ▸ HC.out) (by omega)).1
        have hcr : Cut (a + k) (D - k) := by rw [hkp]; exact cut_right (hD ▸ HC.out) (by omega) (by rw [Nat.pow_succ]; omega)
        obtain ⟨a2, ha2⟩ : ∃ a2, a2 = a + k := ⟨_, rfl⟩
        have q3 : (a : Int) + (k : Int) = (a2 : Int) := by omega
        have HA2 := Lib.hid ha2
        have HDD := Lib.hid hD
        have HCL := Lib.hid hcl
        have HCR := Lib.hid hcr
        have HK := Lib.hid hk
        have hlen1 := HL.out.ev.len
        have hszw := HL.out.kp.size
        have hdd : b = a + D := by omega
        have HDB := Lib.hid hdd
        have hbnd : 2 * (n - (b - a)) + 2 * k ≤ 2 * (n - (b - a2)) ∧ 2 * (n - (b - a)) + 2 * (D - k) ≤ 2 * (n - (a2 - a)) ∧ a2 ≤ b ∧ a ≤ a2 ∧ a2 + (D - k) = b := by omega
        have HBn := Lib.hid hbnd
        clear hD hD1 hj hbl hj1 hk hkp hsl hcl hcr ha2 hdd hbnd h2
        go_wp2_with fail
        refine (hlen wq).mono ?_
        rintro en w1 ⟨rfl, rfl⟩
        go_wp2_with (first
          | (refine wpList_shl _ rfl _ _ _ _ (1 : Int) (j : Int) (k : Int) rfl rfl rfl (by omega) (by omega) HSL.out ?_)
          | fail)
        refine (hcall1 w1 a k HB.out (by omega) (by omega)).mono ?_
        rintro en w2 ⟨rfl, rfl⟩
        clear hlen
        cases hRt : R a k with
        | true =>
          have HRt := Lib.hid hRt
          clear hRt
          go_wp2_with fail
          have h1 := rroot_any Z rb kb n V hV k a w2 0 s' HL.out.rd HCL.out (by omega) (by omega)
          rw [← HA2.out] at h1
          refine h1.mono ?_
          rintro en w3 ⟨t1, e1, s1, rfl, hL1, hv1, ht1⟩
          have hO3 := OwnL.kp HO.out hL1.kp (fun g hg h => h.elim (HD.out g hg).1 (fun h => h.elim (HD.out g hg).2.1 (fun h => (HD.out g hg).2.2 (Z.sub _ _ h))))
          have hL1' := HL.out.trans hL1
          have hbx3 : w3.cell? ⟨xb, 0, none⟩ = some (.int .i64 m) := (hL1'.kp.cell (p := ⟨xb, 0, none⟩) (cell_lt HX.out) (fun h => h.elim hxr (fun h => h.elim hxk (fun h => hxS (Z.sub _ _ h))))).trans HX.out
          have hL4 : ∀ o, Left Z rb kb n (2 * (n - (b - a)) + 2 * k) w 0 s (w3.alloc o) e1 s1 := fun o => hL1'.below ((Below.refl _ _).alloc (Nat.le_refl _) o)
          have hsz3 := hL1'.kp.size
          have hD3 : ∀ g, u10.ownBlock = some g → g ≠ rb ∧ g ≠ kb ∧ ¬ Z.R s1 g ∧ g < w3.heap.size := fun g hg => by
            have h3 := OwnL.lt HO.out g hg
            refine ⟨(HD.out g hg).1, (HD.out g hg).2.1, fun h => ?_, (OwnL.lt hO3 g hg).2⟩
            rcases hL1.rg g h with h | h
            · exact (HD.out g hg).2.2 h
            · omega
          have HL3 := Lib.hid hL1'
          have HO3 := Lib.hid hO3
          have HV1 := Lib.hid hv1
          have HD3 := Lib.hid hD3
          have HBx3 := Lib.hid hbx3
          clear hL1 hL1' hv1 h1 hO3 hbx3 hL4 hD3
          go_wp2_with (first | (at_builtin; refine wpList_appL _ rfl _ _ 29 rfl i0 (.string ⟨#[]⟩) 16 Tryd.underlying29 hi hz0 hz1 HI2.out rfl (by decide) w.heap.size _ l rfl (OwnL.alloc HO3.out _) t1 rfl ⟨w3.heap.size, 0, none⟩ 1 rfl (one_str w3 _ _) ?_ ?_ (by decide) ?_ ?_) | fail)
          · intro u hu; simp at hu; subst hu; rfl
          · omega
          · rw [size_alloc]; omega
          intro v4 w4 ho4 hg4 hown4
          have hR4 : Rd Z rb kb n w4 e1 s1 := by
            have h3 := HL3.out.rd.below ((Below.refl _ _).alloc (Nat.le_refl _) (.cells #[.string t1] 9))
            refine h3.kp (U := fun i => u10.ownBlock = some i) ⟨hg4.os, hg4.tape, hg4.output, hg4.size, fun i hi hn => hg4.block i hi (fun e => hn e.symm)⟩ (fun h => (HD3.out _ h).1 rfl) (fun h => (HD3.out _ h).2.1 rfl) (fun i h1 h2 => (HD3.out _ h2).2.2.1 h1) (fun i hi => ?_)
            have := (OwnL.lt HO3.out i hi).1
            have := HR.out.tabs.size
            omega
          have hK4 : Kp (RdS Z rb kb s) w w4 := by
            refine (HL3.out.kp.alloc _).grown hg4 (fun i hi => .inr ?_)
            exact (OwnL.lt HO3.out i hi).1
          have hL4 : Left Z rb kb n (2 * (n - (b - a)) + 2 * k) w 0 s w4 e1 s1 := ⟨hR4, hK4, HL3.out.rg, HL3.out.sg, HL3.out.ev⟩
          have hB4 : w4.cell? ⟨xb, 0, none⟩ = some (.int .i64 m) := (hK4.cell (p := ⟨xb, 0, none⟩) (cell_lt HX.out) (fun h => h.elim hxr (fun h => h.elim hxk (fun h => hxS (Z.sub _ _ h))))).trans HX.out
          have hD4 : ∀ g, v4.ownBlock = some g → g ≠ rb ∧ g ≠ kb ∧ ¬ Z.R s1 g := fun g hg => by
            rcases hown4 with h | h
            · rw [h] at hg
              have := HD3.out g hg
              exact ⟨this.1, this.2.1, this.2.2.1⟩
            · rw [h] at hg
              obtain rfl := Option.some.inj hg
              have hlt := HL3.out.rd.lt
              have hl3 : ∀ k, Z.R s1 k → k < w3.heap.size := fun k hk => Z.lt _ _ HL3.out.rd.src k hk
              exact ⟨by omega, by omega, fun h => by have := hl3 _ h; omega⟩
          have HL4 := Lib.hid hL4
          have HB4 := Lib.hid hB4
          have HD4 := Lib.hid hD4
          have HO4 := Lib.hid ho4
          clear ho4 hg4 hown4 hR4 hK4 hL4 hB4 hD4
          go_wp2_with fail
          refine ⟨⟨a2, b, l ++ [t1], false, e1, s1, rfl, rfl, rfl, by omega, hbn, ?_, HO4.out, ?_, ?_, HL4.out.mono HBn.out.1, HB4.out, HD4.out, fun h => ?_⟩, ?_⟩
          · have : b - a2 = D - k := by omega
            rw [this, HA2.out]
            exact HCR.out
          · rw [List.length_append]; simp; omega
          · intro x hx
            rcases List.mem_append.1 hx with hx | hx
            · exact HS.out x hx
            · obtain rfl := List.mem_singleton.1 hx; exact ht1
          · have := hJ.right a b l wh HJ0.out HMt.out (by rw [← HK.out]; exact HRt.out)
            rw [← HK.out, ← HA2.out] at this
            rw [HV1.out h]
            exact this
          · show (b : Int).toNat - (a2 : Int).toNat < (b : Int).toNat - (a : Int).toNat
            omega
        | false =>
          have HRt := Lib.hid hRt
          clear hRt
          go_wp2_with fail
          have h1 := rroot_any Z rb kb n V hV (D - k) (a + k) w2 0 s' HL.out.rd HCR.out (by omega) (by omega)
          rw [← HA2.out, HBn.out.2.2.2.2] at h1
          refine h1.mono ?_
          rintro en w3 ⟨t1, e1, s1, rfl, hL1, hv1, ht1⟩
          have hO3 := OwnL.kp HO.out hL1.kp (fun g hg h => h.elim (HD.out g hg).1 (fun h => h.elim (HD.out g hg).2.1 (fun h => (HD.out g hg).2.2 (Z.sub _ _ h))))
          have hL1' := HL.out.trans hL1
          have hbx3 : w3.cell? ⟨xb, 0, none⟩ = some (.int .i64 m) := (hL1'.kp.cell (p := ⟨xb, 0, none⟩) (cell_lt HX.out) (fun h => h.elim hxr (fun h => h.elim hxk (fun h => hxS (Z.sub _ _ h))))).trans HX.out
          have hL4 : ∀ o, Left Z rb kb n (2 * (n - (b - a)) + 2 * (D - k)) w 0 s (w3.alloc o) e1 s1 := fun o => hL1'.below ((Below.refl _ _).alloc (Nat.le_refl _) o)
          have hsz3 := hL1'.kp.size
          have hD3 : ∀ g, u10.ownBlock = some g → g ≠ rb ∧ g ≠ kb ∧ ¬ Z.R s1 g ∧ g < w3.heap.size := fun g hg => by
            have h3 := OwnL.lt HO.out g hg
            refine ⟨(HD.out g hg).1, (HD.out g hg).2.1, fun h => ?_, (OwnL.lt hO3 g hg).2⟩
            rcases hL1.rg g h with h | h
            · exact (HD.out g hg).2.2 h
            · omega
          have HL3 := Lib.hid hL1'
          have HO3 := Lib.hid hO3
          have HV1 := Lib.hid hv1
          have HD3 := Lib.hid hD3
          have HBx3 := Lib.hid hbx3
          clear hL1 hL1' hv1 h1 hO3 hbx3 hL4 hD3
          go_wp2_with (first | (at_builtin; refine wpList_appL _ rfl _ _ 29 rfl i0 (.string ⟨#[]⟩) 16 Tryd.underlying29 hi hz0 hz1 HI2.out rfl (by decide) w.heap.size _ l rfl (OwnL.alloc HO3.out _) t1 rfl ⟨w3.heap.size, 0, none⟩ 1 rfl (one_str w3 _ _) ?_ ?_ (by decide) ?_ ?_) | fail)
          · intro u hu; simp at hu; subst hu; rfl
          · omega
          · rw [size_alloc]; omega
          intro v4 w4 ho4 hg4 hown4
          have hR4 : Rd Z rb kb n w4 e1 s1 := by
            have h3 := HL3.out.rd.below ((Below.refl _ _).alloc (Nat.le_refl _) (.cells #[.string t1] 9))
            refine h3.kp (U := fun i => u10.ownBlock = some i) ⟨hg4.os, hg4.tape, hg4.output, hg4.size, fun i hi hn => hg4.block i hi (fun e => hn e.symm)⟩ (fun h => (HD3.out _ h).1 rfl) (fun h => (HD3.out _ h).2.1 rfl) (fun i h1 h2 => (HD3.out _ h2).2.2.1 h1) (fun i hi => ?_)
            have := (OwnL.lt HO3.out i hi).1
            have := HR.out.tabs.size
            omega
          have hK4 : Kp (RdS Z rb kb s) w w4 := by
            refine (HL3.out.kp.alloc _).grown hg4 (fun i hi => .inr ?_)
            exact (OwnL.lt HO3.out i hi).1
          have hL4 : Left Z rb kb n (2 * (n - (b - a)) + 2 * (D - k)) w 0 s w4 e1 s1 := ⟨hR4, hK4, HL3.out.rg, HL3.out.sg, HL3.out.ev⟩
          have hB4 : w4.cell? ⟨xb, 0, none⟩ = some (.int .i64 m) := (hK4.cell (p := ⟨xb, 0, none⟩) (cell_lt HX.out) (fun h => h.elim hxr (fun h => h.elim hxk (fun h => hxS (Z.sub _ _ h))))).trans HX.out
          have hD4 : ∀ g, v4.ownBlock = some g → g ≠ rb ∧ g ≠ kb ∧ ¬ Z.R s1 g := fun g hg => by
            rcases hown4 with h | h
            · rw [h] at hg
              have := HD3.out g hg
              exact ⟨this.1, this.2.1, this.2.2.1⟩
            · rw [h] at hg
              obtain rfl := Option.some.inj hg
              have hlt := HL3.out.rd.lt
              have hl3 : ∀ k, Z.R s1 k → k < w3.heap.size := fun k hk => Z.lt _ _ HL3.out.rd.src k hk
              exact ⟨by omega, by omega, fun h => by have := hl3 _ h; omega⟩
          have HL4 := Lib.hid hL4
          have HB4 := Lib.hid hB4
          have HD4 := Lib.hid hD4
          have HO4 := Lib.hid ho4
          clear ho4 hg4 hown4 hR4 hK4 hL4 hB4 hD4
          go_wp2_with fail
          refine ⟨⟨a, a2, l ++ [t1], wh, e1, s1, rfl, rfl, rfl, by omega, by omega, ?_, HO4.out, ?_, ?_, HL4.out.mono HBn.out.2.1, HB4.out, HD4.out, fun h => ?_⟩, ?_⟩
          · have : a2 - a = k := by omega
            rw [this]
            exact HCL.out
          · rw [List.length_append]; simp; omega
          · intro x hx
            rcases List.mem_append.1 hx with hx | hx
            · exact HS.out x hx
            · obtain rfl := List.mem_singleton.1 hx; exact ht1
          · have := hJ.left a b l wh HJ0.out HMt.out (by rw [← HK.out]; exact HRt.out)
            rw [← HK.out, ← HA2.out, ← HDD.out] at this
            rw [HV1.out h]
            exact this
          · show (a2 : Int).toNat - (a : Int).toNat < (b : Int).toNat - (a : Int).toNat
            omega
      · go_wp2_with fail
        refine bodyPost_ret (v := .tuple #[.int .i64 a, .int .i64 b, u10, .bool wh]) (by simp [results, Tryd.results49, go_sem]) rfl ?_
        exact ⟨a, b, l, wh, e, s', _, rfl, hab, hbn, HC.out, HO.out, by omega, HS.out, HL.out, HD.out, fun h => absurd h he⟩
end Go.Proofs.YtobepddifflpdaaDoor
