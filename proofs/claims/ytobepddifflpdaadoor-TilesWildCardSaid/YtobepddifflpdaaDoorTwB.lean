import Derived.Test.YtobepddifflpdaaDoorTwA
set_option linter.unusedVariables false
namespace Go.Proofs.YtobepddifflpdaaDoor
open Go Go.RowKit Go.Lib Go.Sort Go.Maps Go.WideMaps

def wildSrc (wb : Nat) (ao : Option Addr) (k cap : Nat) (ts : Nat → ByteArray) (hk : k ≤ 20) (hts : ∀ j, j < k → (ts j).size ≤ 9223372036854775807) : Src where
  σ := List ByteArray
  T := 54
  x := .pointer (some ⟨wb, 0, none⟩)
  fn := 161
  I w _ := WildAt w wb ao k cap ts
  R _ j := j = wb ∨ (0 < k ∧ ao.map (·.block) = some j)
  S _ _ := False
  log s := s
  ans p := ansW k ts p
  sub _ _ h := h.elim
  lt w s h j hj := by
    rcases hj with rfl | ⟨h0, hj⟩
    · exact (Array.getElem?_eq_some_iff.1 h.blk).1
    · obtain ⟨b, off, rfl, _, hc⟩ := h.cells h0
      obtain rfl := Option.some.inj hj
      exact cell_lt (hc 0 h0)
  gs _ _ _ _ h := h.elim
  kp w w' s U h q hU := h.kp q (hU wb (.inl rfl)) (fun b h0 hb => hU b (.inr ⟨h0, hb⟩))
  small p hp := by
    show (ansW k ts p).1.size ≤ _
    unfold ansW
    split
    · show p.size ≤ _; omega
    · exact hts _ (Nat.mod_lt _ (by omega))
  meth w := by kernel_rfl
  ent args w := enters_of Tryd.func161 (by kernel_rfl) rfl args w
  call w s p h hT hp hl := (wild_any wb ao k cap ts p w h hk hp).mono fun e w' hpost => by
    obtain ⟨rfl, hb⟩ := hpost
    exact ⟨rfl, s ++ [p], h.kp (S := fun _ => False) (Kp.of_below hb) (fun h => h) (fun _ _ _ h => h), rfl, fun _ h => .inl h, fun _ h => .inl h, Kp.of_below hb⟩

/-- nodes out of whatever the source says. -/
def evW (ans : ByteArray → ByteArray × Int) (n l k : Nat) : ByteArray := (ans (pathT l ((k / 4 : Nat) : Int) ((min 4 (n / 2 ^ (2 * l) - 4 * (k / 4)) : Nat) : Int))).1.extract (32 * (k % 4)) (32 * (k % 4) + 32)
def VW (ans : ByteArray → ByteArray × Int) (n h k : Nat) : ByteArray := if h % 2 = 0 then evW ans n (h / 2) k else nodeB (evW ans n (h / 2) (2 * k)) (evW ans n (h / 2) (2 * k + 1))
theorem vals_any (Z : Src) (n : Nat) : Vals Z n (VW Z.ans n) := by
  refine ⟨fun l i x t j hT hg hj => ?_, fun l k => ?_⟩
  · obtain ⟨h1, h2, h3⟩ := hT
    have hj4 : j < 4 := by omega
    unfold VW
    rw [if_pos (by omega), show 2 * l / 2 = l by omega]
    unfold evW
    rw [show (4 * i + j) / 4 = i by omega, show (4 * i + j) % 4 = j by omega, ← h3, hg.1]
  · unfold VW
    rw [if_neg (by omega), if_pos (by omega), if_pos (by omega), show (2 * l + 1) / 2 = l by omega, show 2 * l / 2 = l by omega]

def WPost (w : World) (e : Ending) (w' : World) : Prop := ∃ v, e = .returned v ∧ Below w.heap.size w w'
theorem out_below {Z : Src} {n c : Nat} {w w' : World} {s s' : Z.σ} {e' : Int} (h : Out Z n c w s w' e' s') (hS : ∀ k, ¬ Z.S s k) : Below w.heap.size w w' := h.kp.toBelow (Nat.le_refl _) (fun i hi => absurd hi (hS i))

theorem wroot (wb : Nat) (ao : Option Addr) (k cap : Nat) (ts : Nat → ByteArray) (hk : k ≤ 20) (hts : ∀ j, j < k → (ts j).size ≤ 9223372036854775807) (n : Int) (w : World) (h : WildAt w wb ao k cap ts) (hT : Tabs w) :
    Calls Tryd.prog 18 #[.iface 54 (.pointer (some ⟨wb, 0, none⟩)), .int .i64 n] w (WPost w) := by
  by_cases hn : 0 ≤ n ∧ n ≤ 1024
  · obtain ⟨m, rfl⟩ := Int.eq_ofNat_of_zero_le hn.1
    refine (troot_any (wildSrc wb ao k cap ts hk hts) m _ (vals_any _ m) w [] h hT (by omega) (Nat.zero_le _)).mono fun e w' hp => ?_
    obtain ⟨t, e', s', rfl, hO, _⟩ := hp
    exact ⟨_, rfl, out_below hO (fun _ h => h)⟩
  · exact (troot_bad _ n w (.inr ⟨⟨_, _, rfl⟩, by omega⟩)).mono fun e w' hp => ⟨_, hp.1, hp.2⟩
theorem wincl (wb : Nat) (ao : Option Addr) (k cap : Nat) (ts : Nat → ByteArray) (hk : k ≤ 20) (hts : ∀ j, j < k → (ts j).size ≤ 9223372036854775807) (n i : Int) (w : World) (h : WildAt w wb ao k cap ts) (hT : Tabs w) :
    Calls Tryd.prog 20 #[.iface 54 (.pointer (some ⟨wb, 0, none⟩)), .int .i64 n, .int .i64 i] w (WPost w) := by
  by_cases hn : 0 ≤ n ∧ n ≤ 1024
  · obtain ⟨m, rfl⟩ := Int.eq_ofNat_of_zero_le hn.1
    by_cases hi : 0 ≤ i ∧ i < m
    · obtain ⟨j, rfl⟩ := Int.eq_ofNat_of_zero_le hi.1
      refine (tincl_ok (wildSrc wb ao k cap ts hk hts) m j _ (vals_any _ m) w [] h hT (by omega) (by omega) (Nat.zero_le _)).mono fun e w' hp => ?_
      obtain ⟨v, e', s', l, rfl, hO, _⟩ := hp
      exact ⟨_, rfl, out_below hO (fun _ h => h)⟩
    · refine (tincl_arg (wildSrc wb ao k cap ts hk hts) m i w [] h hT (by omega) (by omega)).mono fun e w' hp => ?_
      exact ⟨_, hp.1, out_below hp.2 (fun _ h => h)⟩
  · exact (tincl_bad _ n i w (.inr ⟨⟨_, _, rfl⟩, by omega⟩)).mono fun e w' hp => ⟨_, hp.1, hp.2⟩
theorem wcons (wb : Nat) (ao : Option Addr) (k cap : Nat) (ts : Nat → ByteArray) (hk : k ≤ 20) (hts : ∀ j, j < k → (ts j).size ≤ 9223372036854775807) (n i : Int) (w : World) (h : WildAt w wb ao k cap ts) (hT : Tabs w) :
    Calls Tryd.prog 23 #[.iface 54 (.pointer (some ⟨wb, 0, none⟩)), .int .i64 n, .int .i64 i] w (WPost w) := by
  by_cases hn : 0 ≤ n ∧ n ≤ 1024
  · obtain ⟨m, rfl⟩ := Int.eq_ofNat_of_zero_le hn.1
    by_cases hi : 0 ≤ i ∧ i ≤ m
    · obtain ⟨j, rfl⟩ := Int.eq_ofNat_of_zero_le hi.1
      by_cases hj : j = 0
      · subst hj
        refine (tcons_zero (wildSrc wb ao k cap ts hk hts) m w [] h hT (by omega)).mono fun e w' hp => ?_
        obtain ⟨v, e', s', l, rfl, hO, _⟩ := hp
        exact ⟨_, rfl, out_below hO (fun _ h => h)⟩
      · refine (tcons_ok (wildSrc wb ao k cap ts hk hts) m j _ (vals_any _ m) w [] h hT (by omega) (by omega) (by omega) (Nat.zero_le _)).mono fun e w' hp => ?_
        obtain ⟨v, e', s', l, rfl, hO, _⟩ := hp
        exact ⟨_, rfl, out_below hO (fun _ h => h)⟩
    · refine (tcons_arg (wildSrc wb ao k cap ts hk hts) m i w [] h hT (by omega) (by omega)).mono fun e w' hp => ?_
      exact ⟨_, hp.1, out_below hp.2 (fun _ h => h)⟩
  · exact (tcons_bad _ n i w (.inr ⟨⟨_, _, rfl⟩, by omega⟩)).mono fun e w' hp => ⟨_, hp.1, hp.2⟩

set_option maxRecDepth 100000 in
set_option maxHeartbeats 1000000 in
theorem wilds_any (ao : Option Addr) (k0 cap : Nat) (ts : Nat → ByteArray) (n i : Int) (w : World) (hT : Tabs w) (hcap : k0 ≤ cap) (hcap2 : cap ≤ 9223372036854775807) (hts : ∀ j, j < k0 → (ts j).size ≤ 9223372036854775807)
    (hc : 0 < k0 → ∃ b off, ao = some ⟨b, off, none⟩ ∧ ∀ j, j < k0 → w.cell? ⟨b, off + j, none⟩ = some (.string (ts j))) :
    Calls Tryd.prog 7 #[.slice ao k0 cap, .int .i64 n, .int .i64 i] w fun e w' => e = .returned (.bool true) ∧ Below w.heap.size w w' := by
  have HT := Lib.hid hT
  have HC := Lib.hid hc
  clear hT hc
  go_enter Tryd.func7, Tryd.ntmps7
  go_wp2_with fail
  refine (reads_any w HT.out).mono ?_
  rintro e w1 ⟨rfl, hb1⟩
  have HBa := Lib.hid hb1
  clear hb1
  obtain ⟨k, hk⟩ : ∃ k, k = min k0 20 := ⟨_, rfl⟩
  have hmin : min (k0 : Int) 20 = (k : Int) := by omega
  have hk20 : k ≤ 20 := by omega
  have hkk : k ≤ k0 := by omega
  have hkc : (k : Int) ≤ cap := by omega
  clear hk
  go_wp2_with fail
  have hb2 : Below w.heap.size w (w1.alloc (.cells #[.slice ao k cap] 56)) := HBa.out.alloc HBa.out.size _
  have hW : WildAt (w1.alloc (.cells #[.slice ao k cap] 56)) w1.heap.size ao k cap ts := by
    refine ⟨blk_new _ _, fun h0 => ?_⟩
    obtain ⟨b, off, rfl, hc⟩ := HC.out (by omega)
    refine ⟨b, off, rfl, ?_, fun j hj => (hb2.cell (p := ⟨b, off + j, none⟩) (cell_lt (hc j (by omega)))).trans (hc j (by omega))⟩
    have h1 : b < w.heap.size := cell_lt (hc 0 (by omega))
    have h2 := HBa.out.size
    omega
  have hts' : ∀ j, j < k → (ts j).size ≤ 9223372036854775807 := fun j hj => hts j (by omega)
  have HTS := Lib.hid hts'
  obtain ⟨wb, hwb⟩ : ∃ wb, wb = w1.heap.size := ⟨_, rfl⟩
  rw [← hwb] at hW ⊢
  generalize w1.alloc (.cells #[.slice ao k cap] 56) = v0 at hW hb2 ⊢
  have HW0 := Lib.hid hW
  have HB0 := Lib.hid hb2
  have HT0 := Lib.hid (HT.out.below hb2)
  clear hW hb2 hts hts' hwb
  refine (wroot wb ao k cap ts hk20 HTS.out n v0 HW0.out HT0.out).mono ?_
  rintro e v1 ⟨x1, rfl, hb⟩
  have HW1 := Lib.hid (HW0.out.kp (S := fun _ => False) (Kp.of_below hb) (fun h => h) (fun _ _ _ h => h))
  have HT1 := Lib.hid (HT0.out.below hb)
  have HB1 := Lib.hid (HB0.out.trans (hb.mono HB0.out.size))
  clear hb
  go_wp2_with fail
  refine (wincl wb ao k cap ts hk20 HTS.out n i v1 HW1.out HT1.out).mono ?_
  rintro e v2 ⟨x2, rfl, hb⟩
  have HW2 := Lib.hid (HW1.out.kp (S := fun _ => False) (Kp.of_below hb) (fun h => h) (fun _ _ _ h => h))
  have HT2 := Lib.hid (HT1.out.below hb)
  have HB2 := Lib.hid (HB1.out.trans (hb.mono HB1.out.size))
  clear hb
  go_wp2_with fail
  refine (wcons wb ao k cap ts hk20 HTS.out n i v2 HW2.out HT2.out).mono ?_
  rintro e v3 ⟨x3, rfl, hb⟩
  have HW3 := Lib.hid (HW2.out.kp (S := fun _ => False) (Kp.of_below hb) (fun h => h) (fun _ _ _ h => h))
  have HT3 := Lib.hid (HT2.out.below hb)
  have HB3 := Lib.hid (HB2.out.trans (hb.mono HB2.out.size))
  clear hb
  go_wp2_with fail
  refine (troot_bad .nilIface 1 v3 (.inl rfl)).mono ?_
  rintro e v4 ⟨rfl, hb⟩
  have HW4 := Lib.hid (HW3.out.kp (S := fun _ => False) (Kp.of_below hb) (fun h => h) (fun _ _ _ h => h))
  have HT4 := Lib.hid (HT3.out.below hb)
  have HB4 := Lib.hid (HB3.out.trans (hb.mono HB3.out.size))
  clear hb
  go_wp2_with fail
  refine (tincl_bad .nilIface 1 0 v4 (.inl rfl)).mono ?_
  rintro e v5 ⟨rfl, hb⟩
  have HW5 := Lib.hid (HW4.out.kp (S := fun _ => False) (Kp.of_below hb) (fun h => h) (fun _ _ _ h => h))
  have HT5 := Lib.hid (HT4.out.below hb)
  have HB5 := Lib.hid (HB4.out.trans (hb.mono HB4.out.size))
  clear hb
  go_wp2_with fail
  refine (tcons_bad .nilIface 1 0 v5 (.inl rfl)).mono ?_
  rintro e v6 ⟨rfl, hb⟩
  have HW6 := Lib.hid (HW5.out.kp (S := fun _ => False) (Kp.of_below hb) (fun h => h) (fun _ _ _ h => h))
  have HT6 := Lib.hid (HT5.out.below hb)
  have HB6 := Lib.hid (HB5.out.trans (hb.mono HB5.out.size))
  clear hb
  go_wp2_with fail
  refine (troot_bad _ (-1) v6 (.inr ⟨⟨_, _, rfl⟩, by omega⟩)).mono ?_
  rintro e v7 ⟨rfl, hb⟩
  have HW7 := Lib.hid (HW6.out.kp (S := fun _ => False) (Kp.of_below hb) (fun h => h) (fun _ _ _ h => h))
  have HT7 := Lib.hid (HT6.out.below hb)
  have HB7 := Lib.hid (HB6.out.trans (hb.mono HB6.out.size))
  clear hb
  go_wp2_with fail
  refine (troot_bad _ 1025 v7 (.inr ⟨⟨_, _, rfl⟩, by omega⟩)).mono ?_
  rintro e v8 ⟨rfl, hb⟩
  have HW8 := Lib.hid (HW7.out.kp (S := fun _ => False) (Kp.of_below hb) (fun h => h) (fun _ _ _ h => h))
  have HT8 := Lib.hid (HT7.out.below hb)
  have HB8 := Lib.hid (HB7.out.trans (hb.mono HB7.out.size))
  clear hb
  go_wp2_with fail
  go_ret
  exact ⟨rfl, HB8.out⟩
end Go.Proofs.YtobepddifflpdaaDoor
