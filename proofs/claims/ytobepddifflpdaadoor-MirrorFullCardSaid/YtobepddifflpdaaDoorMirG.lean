import Derived.Test.YtobepddifflpdaaDoorMirP
import Derived.Test.YtobepddifflpdaaDoorTlI
import Derived.Test.YtobepddifflpdaaDoorByZ
set_option linter.unusedVariables false
namespace Go.Proofs.YtobepddifflpdaaDoor
open Go Go.RowKit Go.Maps Go.WideMaps Go.Lib

theorem put_below {w0 w w' : World} {a : Addr} {v : Option Nat} (hb : Below w0.heap.size w0 w) (k : Kp (PutS a v) w w') (ha : w0.heap.size ≤ a.block) (hv : ∀ b, v = some b → w0.heap.size ≤ b) : Below w0.heap.size w0 w' :=
  hb.trans (k.toBelow hb.size (fun i hi => hi.elim (fun h => h ▸ ha) (hv i)))

def FullL (mb : Nat) (w0 : World) (k : Nat) (i : Value) (wr : World) : Prop :=
  ∃ j : Nat, j ≤ k ∧ i = .int .i64 j ∧ Mir wr ⟨mb, 0, none⟩ none 0 (.map []) ∧ Below w0.heap.size w0 wr
def FullS (mb : Nat) (t : ByteArray) (w0 : World) (k : Nat) (i : Value) (wr : World) : Prop :=
  ∃ (j : Nat) (v : Option Nat), j ≤ k ∧ i = .int .i64 j ∧ Mir wr ⟨mb, 0, none⟩ v (min j 256) (DF t (min j 256)) ∧ (j = 0 → v = none) ∧ (0 < j → ∃ b, v = some b) ∧ (∀ b, v = some b → w0.heap.size ≤ b) ∧ Below w0.heap.size w0 wr

set_option maxRecDepth 100000 in
theorem make65 (w : World) : (Instr.makeSlice 65 (.int .i64 65) (.int .i64 65)).run Tryd.prog w = .ok (.slice (some ⟨w.heap.size, 0, none⟩) 65 65) (w.alloc (.cells (Array.replicate 65 (.int .u8 0)) 5)) := by kernel_rfl
theorem zeros65_cells : strCells (zerosB 65) = List.replicate 65 (.int .u8 0) := strCells_zeros 65
theorem zeros65 (w : World) : OwnB (w.alloc (.cells (Array.replicate 65 (.int .u8 0)) 5)) w.heap.size (.slice (some ⟨w.heap.size, 0, none⟩) 65 65) (zerosB 65) := by
  refine ⟨by rw [zeros65_cells]; rfl, .inr ⟨w.heap.size, 65, _, rfl, Nat.le_refl _, blk_new _ _, Nat.le_refl _, by unfold maxLen; omega, rfl, ?_⟩⟩
  rw [zeros65_cells]
  rfl
theorem itoa_room (j : Nat) (h : j < 1000) : ¬ 9223372036854775807 < 1 + (itoaB (j : Int)).size := by
  have := keyF_size j h
  unfold keyF at this
  rw [ByteArray.size_append] at this
  omega

set_option maxRecDepth 100000 in
set_option maxHeartbeats 2000000 in
theorem full_long (z : Int) (t : ByteArray) (w : World) (hT : Tabs w) (hz0 : 0 ≤ z) (hz1 : z ≤ 255) (ht : 65535 < t.size) :
    Calls Tryd.prog 8 #[.int .u8 z, .string t] w fun e w' => e = .returned (.bool true) ∧ Below w.heap.size w w' := by
  have HT := Lib.hid hT
  clear hT
  obtain ⟨m, hm⟩ : ∃ m : Nat, z % 5 = (m : Int) := ⟨(z % 5).toNat, by omega⟩
  obtain ⟨k, hk⟩ : ∃ k, k = 254 + m := ⟨_, rfl⟩
  have hmk : (254 : Int) + (m : Int) = (k : Int) := by omega
  have hk258 : k ≤ 258 := by omega
  have hk254 : 254 ≤ k := by omega
  clear hk
  have hl1 : (65535 : Int) < (t.size : Int) := by omega
  have hl2 : ¬ (t.size : Int) ≤ 65535 := by omega
  go_enter Tryd.func8, Tryd.ntmps8
  go_wp2_with fail
  refine (serves_any w).mono ?_
  rintro e w1 ⟨rfl, hb1⟩
  have HB1 := Lib.hid hb1
  have hsz1 := hb1.size
  have HM0 := Lib.hid (mir_new w1)
  have HB2 := Lib.hid (hb1.alloc hsz1 (.cells #[.map none] 60))
  clear hb1
  go_wp2_with fail
  generalize w1.alloc (.cells #[.map none] 60) = w2 at HM0 HB2 ⊢
  generalize w1.heap.size = mb at HM0 hsz1 ⊢
  go_loopw [16] (fun i wr => FullL mb w k i wr) (fun i _ => k - (RowKit.intOf i).toNat)
  case atStart => exact ⟨0, Nat.zero_le _, rfl, HM0.out, HB2.out⟩
  case round =>
    obtain ⟨j, hj, rfl, hM, hB⟩ := hrel
    have HM := Lib.hid hM
    have HB := Lib.hid hB
    clear hM hB
    by_cases hlt : j < k
    · have HI := Lib.hid ((HT.out.below HB.out).itoa j (by omega) (by omega) wr (Below.refl _ _))
      have hroom := itoa_room j (by omega)
      go_wp2_with fail
      refine HI.out.mono ?_
      rintro e w3 ⟨rfl, hb3⟩
      have HM3 := Lib.hid (HM.out.below hb3)
      have HB3 := Lib.hid (HB.out.trans (hb3.mono HB.out.size))
      clear hb3 HI
      go_wp2_with fail
      refine (put_long ⟨mb, 0, none⟩ (keyF j) t w3 (keyF_size j (by omega)).1 (keyF_size j (by omega)).2 ht).mono ?_
      rintro e w4 ⟨rfl, hb4⟩
      have HM4 := Lib.hid (HM3.out.below hb4)
      have HB4 := Lib.hid (HB3.out.trans (hb4.mono HB3.out.size))
      clear hb4
      by_cases h256 : (j : Int) < 256
      · go_wp2_with fail
        refine ⟨⟨_, _, _, _, ⟨j + 1, hlt, rfl, HM4.out, HB4.out⟩, rfl, rfl, rfl, rfl⟩, ?_⟩
        show k - ((j : Int) + 1).toNat < k - (j : Int).toNat
        omega
      · have h257 : (256 : Int) ≤ (j : Int) := by omega
        go_wp2_with fail
        refine ⟨⟨_, _, _, _, ⟨j + 1, hlt, rfl, HM4.out, HB4.out⟩, rfl, rfl, rfl, rfl⟩, ?_⟩
        show k - ((j : Int) + 1).toNat < k - (j : Int).toNat
        omega
    · obtain rfl : j = k := by omega
      go_wp2_with fail
      refine (paths_nil ⟨mb, 0, none⟩ 0 _ wr HM.out).mono ?_
      rintro e w3 ⟨ao, cap, rfl, hb3⟩
      have HB3 := Lib.hid (HB.out.trans (hb3.mono HB.out.size))
      clear hb3
      go_wp2_with fail
      go_ret
      exact ⟨rfl, HB3.out⟩

set_option maxRecDepth 100000 in
set_option maxHeartbeats 4000000 in
theorem full_short (z : Int) (t : ByteArray) (w : World) (hT : Tabs w) (hz0 : 0 ≤ z) (hz1 : z ≤ 255) (ht : t.size ≤ 65535) :
    Calls Tryd.prog 8 #[.int .u8 z, .string t] w fun e w' => e = .returned (.bool true) ∧ Below w.heap.size w w' := by
  have HT := Lib.hid hT
  clear hT
  obtain ⟨m, hm⟩ : ∃ m : Nat, z % 5 = (m : Int) := ⟨(z % 5).toNat, by omega⟩
  obtain ⟨k, hk⟩ : ∃ k, k = 254 + m := ⟨_, rfl⟩
  have hmk : (254 : Int) + (m : Int) = (k : Int) := by omega
  have hk258 : k ≤ 258 := by omega
  have hk254 : 254 ≤ k := by omega
  clear hk
  have hl1 : ¬ (65535 : Int) < (t.size : Int) := by omega
  have hl2 : (t.size : Int) ≤ 65535 := by omega
  go_enter Tryd.func8, Tryd.ntmps8
  go_wp2_with fail
  refine (serves_any w).mono ?_
  rintro e w1 ⟨rfl, hb1⟩
  have HB1 := Lib.hid hb1
  have hsz1 := hb1.size
  have HM0 := Lib.hid (mir_new w1)
  have HB2 := Lib.hid (hb1.alloc hsz1 (.cells #[.map none] 60))
  clear hb1
  go_wp2_with fail
  generalize w1.alloc (.cells #[.map none] 60) = w2 at HM0 HB2 ⊢
  generalize w1.heap.size = mb at HM0 hsz1 ⊢
  go_loopw [16] (fun i wr => FullS mb t w k i wr) (fun i _ => k - (RowKit.intOf i).toNat)
  case atStart => exact ⟨0, none, Nat.zero_le _, rfl, HM0.out, fun _ => rfl, (fun h => absurd h (by omega)), (fun b hb => by cases hb), HB2.out⟩
  case round =>
    obtain ⟨j, v, hj, rfl, hM, hv0, hv1, hvb, hB⟩ := hrel
    have HM := Lib.hid hM
    have HB := Lib.hid hB
    clear hM hB
    by_cases hlt : j < k
    · have HI := Lib.hid ((HT.out.below HB.out).itoa j (by omega) (by omega) wr (Below.refl _ _))
      have hroom := itoa_room j (by omega)
      have hks := keyF_size j (by omega)
      go_wp2_with fail
      refine HI.out.mono ?_
      rintro e w3 ⟨rfl, hb3⟩
      have HM3 := Lib.hid (HM.out.below hb3)
      have HB3 := Lib.hid (HB.out.trans (hb3.mono HB.out.size))
      clear hb3 HI
      go_wp2_with fail
      by_cases h256 : j < 256
      · have hmin : min j 256 = j := by omega
        have hmin2 : min (j + 1) 256 = j + 1 := by omega
        have hi1 : (j : Int) < 256 := by omega
        have hM3 := HM3.out
        rw [hmin] at hM3
        have hpost : ∀ e w', PutOk ⟨mb, 0, none⟩ v (j + 1) (DF t (j + 1)) w3 e w' → e = .returned (.int .i64 0) ∧ ∃ b, Mir w' ⟨mb, 0, none⟩ (some b) (j + 1) (DF t (j + 1)) ∧ w.heap.size ≤ b ∧ Below w.heap.size w w' := by
          rintro e w' ⟨he, v', hM', hv', hk'⟩
          refine ⟨he, ?_⟩
          have hB' := put_below HB3.out hk' hsz1 hvb
          rcases hv' with rfl | ⟨b, rfl, hb⟩
          · by_cases hj0 : j = 0
            · have hvn := hv0 hj0
              subst hvn
              exfalso
              have : DF t (j + 1) = .map [] := hM'.map
              have h2 := sizeF t (j + 1) (by omega)
              rw [this] at h2
              exact absurd h2 (by simp [Maps.size_eq])
            · obtain ⟨b, rfl⟩ := hv1 (by omega)
              exact ⟨b, hM', hvb b rfl, hB'⟩
          · exact ⟨b, hM', Nat.le_trans HB3.out.size hb, hB'⟩
        have hput : Calls Tryd.prog 27 #[.pointer (some ⟨mb, 0, none⟩), .string (keyF j), .string t] w3 fun e w' => e = .returned (.int .i64 0) ∧ ∃ b, Mir w' ⟨mb, 0, none⟩ (some b) (j + 1) (DF t (j + 1)) ∧ w.heap.size ≤ b ∧ Below w.heap.size w w' := by
          by_cases hj0 : j = 0
          · have hvn := hv0 hj0
            subst hj0
            subst hvn
            exact (put_first _ 0 (keyF 0) t w3 hks.1 hks.2 ht hM3).mono hpost
          · obtain ⟨b, hvs⟩ := hv1 (by omega)
            subst hvs
            exact (put_more _ b j (DF t j) (keyF j) t w3 hks.1 hks.2 ht hM3 (by rw [mgetF t j j (by omega) (by omega), if_neg (by omega)]) (by unfold maxLen; omega) (by rw [sizeF t j (by omega)]; omega)).mono hpost
        clear hpost hM3
        refine hput.mono ?_
        rintro e w4 ⟨rfl, b4, hM4, hb4, hB4⟩
        have HM4 := Lib.hid hM4
        have HB4 := Lib.hid hB4
        clear hM4 hB4 hput
        go_wp2_with fail
        refine ⟨⟨_, _, _, _, ⟨j + 1, some b4, hlt, rfl, by rw [hmin2]; exact HM4.out, fun h => absurd h (by omega), fun _ => ⟨b4, rfl⟩, fun b hb => by injection hb with hb; omega, HB4.out⟩, rfl, rfl, rfl, rfl⟩, ?_⟩
        show k - ((j : Int) + 1).toNat < k - (j : Int).toNat
        omega
      · have hmin : min j 256 = 256 := by omega
        have hmin2 : min (j + 1) 256 = 256 := by omega
        have hi1 : ¬ (j : Int) < 256 := by omega
        have hi2 : (256 : Int) ≤ (j : Int) := by omega
        obtain ⟨b, hvs⟩ := hv1 (by omega)
        subst hvs
        have hM3 := HM3.out
        rw [hmin] at hM3
        refine (put_full _ b 256 (DF t 256) (keyF j) t w3 hks.1 hks.2 ht hM3.cell hM3.map (by rw [mgetF t 256 j (by omega) (by omega), if_neg (by omega)]) (by rw [sizeF t 256 (by omega)]; omega)).mono ?_
        rintro e w4 ⟨rfl, hb4⟩
        have HM4 := Lib.hid (hM3.below hb4)
        have HB4 := Lib.hid (HB3.out.trans (hb4.mono HB3.out.size))
        clear hb4 hM3
        go_wp2_with fail
        refine ⟨⟨_, _, _, _, ⟨j + 1, some b, hlt, rfl, by rw [hmin2]; exact HM4.out, fun h => absurd h (by omega), fun _ => ⟨b, rfl⟩, hvb, HB4.out⟩, rfl, rfl, rfl, rfl⟩, ?_⟩
        show k - ((j : Int) + 1).toNat < k - (j : Int).toNat
        omega
    · obtain rfl : j = k := by omega
      obtain ⟨b, hvs⟩ := hv1 (by omega)
      subst hvs
      obtain ⟨N, hN⟩ : ∃ N, N = min j 256 := ⟨_, rfl⟩
      have hM := HM.out
      rw [← hN] at hM
      have hN1 : 254 ≤ N ∧ N ≤ 256 := by omega
      have hminI : min (j : Int) 256 = (N : Int) := by omega
      have hs := sizeF t N (by omega)
      have hp := paths_ok ⟨mb, 0, none⟩ b N (DF t N) wr hM (tidyF t N).isMap (by omega)
      rw [hs] at hp
      have HM1 := Lib.hid hM
      have hvb1 := hvb b rfl
      clear hM hN HM
      go_wp2_with fail
      refine hp.mono ?_
      rintro e w3 ⟨ao, cap, rfl, hb3⟩
      have HM3 := Lib.hid (HM1.out.below hb3)
      have HB3 := Lib.hid (HB.out.trans (hb3.mono HB.out.size))
      clear hb3 hp HM1
      go_wp2_with fail
      refine (put_again ⟨mb, 0, none⟩ b N (DF t N) ⟨#[102, 48]⟩ ⟨#[110, 101, 119]⟩ t w3 (by decide) (by decide) (by decide) HM3.out (by rw [← keyF_zero, mgetF t N 0 (by omega) (by omega), if_pos (by omega)]) (by unfold maxLen; omega)).mono ?_
      rintro e w4 ⟨rfl, v4, hM4, hv4, hk4⟩
      obtain ⟨b4, rfl, hb4⟩ : ∃ b4, v4 = some b4 ∧ w.heap.size ≤ b4 := by
        rcases hv4 with rfl | ⟨b', rfl, hb'⟩
        · exact ⟨b, rfl, hvb1⟩
        · exact ⟨b', rfl, Nat.le_trans HB3.out.size hb'⟩
      have HB4 := Lib.hid (put_below HB3.out hk4 hsz1 hvb)
      have HM4 := Lib.hid hM4
      clear hM4 hk4 hv4
      have hz := keyF_zero
      have ho := keyF_one
      have hg1 : mget ((DF t N).put (kS ⟨#[102, 48]⟩) (dS ⟨#[110, 101, 119]⟩)) ⟨#[102, 49]⟩ = some t := by
        rw [mget_put_other _ (by rw [← hz, ← ho]; exact fun e => absurd (keyF_inj (by omega) (by omega) e) (by omega)), ← ho, mgetF t N 1 (by omega) (by omega), if_pos (by omega)]
      have hg2 : mget ((DF t N).put (kS ⟨#[102, 48]⟩) (dS ⟨#[110, 101, 119]⟩)) sOther = none := by
        rw [mget_put_other _ (by rw [← hz]; exact keyF_other 0), mgetF_other t N]
      have ht1 : Tidy ((DF t N).put (kS ⟨#[102, 48]⟩) (dS ⟨#[110, 101, 119]⟩)) := (tidyF t N).put (by trivial) _
      have hs1 : Maps.size ((DF t N).put (kS ⟨#[102, 48]⟩) (dS ⟨#[110, 101, 119]⟩)) = N := by
        rw [size_put_old (s := t) _ (tidyF t N) (by rw [← hz, mgetF t N 0 (by omega) (by omega), if_pos (by omega)]), hs]
      generalize (DF t N).put (kS ⟨#[102, 48]⟩) (dS ⟨#[110, 101, 119]⟩) = D1 at *
      have hs2 := size_del_old ht1 hg1
      have hg3 := mget_del_same (D := D1) ⟨#[102, 49]⟩
      have hg4 : mget (D1.del (kS ⟨#[102, 49]⟩)) sOther = none := by rw [mget_del_other (by rw [← ho]; exact keyF_other 1), hg2]
      have Hg := Lib.hid (And.intro hg1 (And.intro hg3 (And.intro hg4 hs2)))
      clear hz ho hg1 hg2 hg3 hg4 ht1 hs2
      go_wp2_with fail
      refine (drop_ok ⟨mb, 0, none⟩ b4 (N + 1) D1 ⟨#[102, 49]⟩ t w4 (by decide) HM4.out Hg.out.1).mono ?_
      rintro e w5 ⟨rfl, hM5, hk5⟩
      have HB5 := Lib.hid (put_below HB4.out hk5 hsz1 (fun b hb => by injection hb with hb; omega))
      have HM5 := Lib.hid hM5
      clear hM5 hk5
      go_wp2_with fail
      refine (drop_no ⟨mb, 0, none⟩ (some b4) (N + 1) _ ⟨#[102, 49]⟩ w5 (by decide) HM5.out Hg.out.2.1).mono ?_
      rintro e w6 ⟨rfl, hb6⟩
      have HM6 := Lib.hid (HM5.out.below hb6)
      have HB6 := Lib.hid (HB5.out.trans (hb6.mono HB5.out.size))
      clear hb6
      go_wp2_with fail
      refine (put_more ⟨mb, 0, none⟩ b4 (N + 1) _ sOther ⟨#[]⟩ w6 (by decide) (by decide) (by decide) HM6.out Hg.out.2.2.1 (by unfold maxLen; omega) (by have := Hg.out.2.2.2; omega)).mono ?_
      rintro e w7 ⟨rfl, v7, hM7, hv7, hk7⟩
      have HB7 := Lib.hid (put_below HB6.out hk7 hsz1 (fun b hb => by injection hb with hb; omega))
      clear hM7 hv7 hk7
      go_wp2_with fail
      refine (put_empty ⟨mb, 0, none⟩ ⟨#[]⟩ w7).mono ?_
      rintro e w8 ⟨rfl, hb8⟩
      have HB8 := Lib.hid (HB7.out.trans (hb8.mono HB7.out.size))
      clear hb8
      have hmk := make65
      go_wp2_with fail
      rw [run_str (zeros65 w8)]
      simp only [Result.andThen]
      rw [Oper.upon_value]
      have HB9 := Lib.hid (HB8.out.alloc HB8.out.size (.cells (Array.replicate 65 (.int .u8 0)) 5))
      clear hmk
      go_wp2_with fail
      refine (put_path ⟨mb, 0, none⟩ (zerosB 65) ⟨#[]⟩ _ (by rw [zerosB_size]; decide)).mono ?_
      rintro e w10 ⟨rfl, hb10⟩
      have HB10 := Lib.hid (HB9.out.trans (hb10.mono HB9.out.size))
      clear hb10
      go_wp2_with fail
      go_ret
      exact ⟨rfl, HB10.out⟩

theorem full_any (z : Int) (t : ByteArray) (w : World) (hT : Tabs w) (hz0 : 0 ≤ z) (hz1 : z ≤ 255) :
    Calls Tryd.prog 8 #[.int .u8 z, .string t] w fun e w' => e = .returned (.bool true) ∧ Below w.heap.size w w' := by
  by_cases h : t.size ≤ 65535
  · exact full_short z t w hT hz0 hz1 h
  · exact full_long z t w hT hz0 hz1 (by omega)
end Go.Proofs.YtobepddifflpdaaDoor
