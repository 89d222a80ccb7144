import Derived.Test.YtobepddifflpdaaDoorTrB
import Derived.Test.YtobepddifflpdaaDoorShelf
import Derived.Test.YtobepddifflpdaaDoorQtP
set_option linter.unusedVariables false
namespace Go.Proofs.YtobepddifflpdaaDoor
open Go Go.RowKit Go.Lib Go.Sort

/-- N texts in a block of the call's own. -/
def Lvl (w : World) (B : Nat) (v : Value) (N : Nat) (f : Nat → ByteArray) : Prop :=
  ∃ g cap F, v = .slice (some ⟨g, 0, none⟩) N cap ∧ B ≤ g ∧ N ≤ cap ∧ w.rowIs g 9 cap F ∧ ∀ j, j < N → F j = .string (f j)

theorem lvl_of_own {w : World} {B : Nat} {v : Value} {N : Nat} {zs : List ByteArray} (h : w.ownsRow B 9 1 v N ((zs.take N).map Value.string)) (hn : v ≠ .slice none 0 0) (hz : N ≤ zs.length) : Lvl w B v N (fun i => zs.getD i ⟨#[]⟩) := by
  rcases h.2 with ⟨h1, _⟩ | ⟨g, cap, cur, hv, hb, hh, hc, hm, hsz, ht⟩
  · exact absurd h1 hn
  · refine ⟨g, cap, fun i => cur.getD i undef, hv, hb, hc, ⟨cur, hh, by omega, fun i hi => ?_⟩, fun j hj => ?_⟩
    · have h2 : i < cur.size := by omega
      show cur[i]? = some (cur.getD i undef)
      rw [Array.getD_eq_getD_getElem?, Array.getElem?_eq_getElem h2]
      rfl
    · have h1 : (cur.toList.take (N * 1))[j]? = ((zs.take N).map Value.string)[j]? := by rw [ht]
      rw [List.getElem?_take, if_pos (by omega), List.getElem?_map, List.getElem?_take, if_pos hj, List.getElem?_eq_getElem (by omega : j < zs.length)] at h1
      have h2 : zs.getD j (⟨#[]⟩ : ByteArray) = zs[j]'(by omega) := by rw [List.getD_eq_getElem?_getD, List.getElem?_eq_getElem (by omega : j < zs.length)]; rfl
      show cur.getD j undef = Value.string (zs.getD j ⟨#[]⟩)
      rw [Array.getD_eq_getD_getElem?, ← Array.getElem?_toList, h1, h2]
      rfl

def InRel (f : Nat → ByteArray) (N g cp B : Nat) (w : World) (u i : Value) (wr : World) : Prop :=
  ∃ k F, 2 * k ≤ N ∧ u = .slice (some ⟨g, 0, none⟩) k cp ∧ i = .int .i64 (2 * (k : Int)) ∧ wr.rowIs g 9 cp F ∧ (∀ j, j < k → F j = .string (pr f N j)) ∧ (∀ j, 2 * k ≤ j → j < N → F j = .string (f j)) ∧ Below B w wr

theorem rootL_shift (ps : Nat → ByteArray) (po : Nat) : ∀ (n a : Nat), rootL (fun i => ps (po + i)) a n = rootL ps (po + a) n := by
  intro n
  induction n using Nat.strongRecOn with
  | _ n ih =>
    intro a
    by_cases e0 : n = 0
    · subst e0; rw [rootL_zero, rootL_zero]
    · by_cases e1 : n = 1
      · subst e1; rw [rootL_one, rootL_one]
      · have hlt := pw_lt (n := n) (by omega)
        have hpos := pw_pos n
        rw [rootL_two _ a n (by omega), rootL_two ps (po + a) n (by omega), ih (pw n) hlt a, ih (n - pw n) (by omega) (a + pw n), Nat.add_assoc]
theorem rangeD (ps : Nat → ByteArray) (po n i : Nat) : ((List.range n).map fun j => ps (po + j)).getD i (⟨#[]⟩ : ByteArray) = if i < n then ps (po + i) else ⟨#[]⟩ := by
  rw [List.getD_eq_getElem?_getD, List.getElem?_map]
  by_cases h : i < n
  · rw [List.getElem?_range h, if_pos h]; rfl
  · rw [List.getElem?_eq_none (by simpa using h), if_neg h]; rfl
theorem pr_size {f : Nat → ByteArray} (N : Nat) (h : ∀ i, (f i).size ≤ 10000000000) (i : Nat) : (pr f N i).size ≤ 10000000000 := by
  unfold pr
  split
  · rw [nodeB, shaB_size]; omega
  · exact h _

def LvlRel (H : ByteArray) (B : Nat) (w : World) (v : Value) (wr : World) : Prop :=
  ∃ N f, 1 ≤ N ∧ N ≤ 1000000 ∧ Lvl wr B v N f ∧ rootL f 0 N = H ∧ (∀ i, (f i).size ≤ 10000000000) ∧ Below B w wr

set_option maxRecDepth 100000 in
set_option maxHeartbeats 1000000 in
theorem root_any (n pb po cap : Nat) (ps : Nat → ByteArray) (w : World) (h1 : 1 ≤ n) (hcap : n ≤ cap) (hn : n ≤ 1000000) (hcell : ∀ i, i < n → w.cell? ⟨pb, po + i, none⟩ = some (.string (ps (po + i)))) (hsz : ∀ i, (ps i).size ≤ 10000000000) :
    Calls Tryd.prog 39 #[.slice (some ⟨pb, po, none⟩) n cap] w fun e w' => e = .returned (.string (rootL ps po n)) ∧ Below w.heap.size w w' := by
  have hcl := Tryd.slices_Clone_string pb po n cap ((List.range n).map fun j => ps (po + j)) w (by simp) (by omega) (fun j hj => by
    have hj' : j < n := by simpa using hj
    rw [hcell j hj', List.getD_eq_getElem?_getD, List.getElem?_map, List.getElem?_range hj']
    rfl)
  have Hs := Lib.hid hsz
  clear hsz hcell
  go_enter Tryd.func39, Tryd.ntmps39
  go_wp2_with fail
  refine hcl.mono ?_
  rintro e w1 ⟨v, rfl, ho, hne, hb⟩
  have hl := lvl_of_own ho hne (by simp)
  have HL := Lib.hid hl
  have HB := Lib.hid hb
  clear ho hne hl hb hcl
  go_wp2_with fail
  have hpost := Lib.hid (rfl : rootL ps po n = rootL ps po n)
  go_loopw [0] (fun v wr => LvlRel (rootL ps po n) w.heap.size w v wr) (fun v _ => lenOf v)
  case atStart =>
    refine ⟨n, _, h1, hn, HL.out, ?_, ?_, HB.out⟩
    · rw [rootL_congr (g := fun i => ps (po + i)) n 0 (fun i _ hi => by rw [rangeD, if_pos (by omega)]), rootL_shift]
      rfl
    · intro i
      show (((List.range n).map fun j => ps (po + j)).getD i (⟨#[]⟩ : ByteArray)).size ≤ _
      rw [rangeD]
      split
      · exact Hs.out _
      · exact Nat.zero_le _
  case round =>
    obtain ⟨N, f, hN1, hN2, ⟨g, cp, F0, rfl, hg1, hcp, hblk, hcur⟩, hroot, hf, hbel⟩ := hrel
    have HR := Lib.hid hroot
    have HF := Lib.hid hf
    have HB1 := Lib.hid hbel
    have HK := Lib.hid hblk
    have HC := Lib.hid hcur
    clear hroot hf hbel hblk hcur HL HB
    by_cases hone : N = 1
    · subst hone
      have c0 : wr.cell? ⟨g, 0, none⟩ = some (.string (f 0)) := (HK.out.cell (by omega)).trans (by rw [HC.out 0 (by omega)])
      go_wp2_with fail
      go_ret
      refine ⟨?_, HB1.out⟩
      rw [← HR.out, rootL_one]
      rfl
    · have hN3 : 1 < N := by omega
      go_wp2_with fail
      have HK0 := HK
      have HB0 := HB1
      clear HK HB1
      generalize wr = wo at HK0 HB0 ⊢
      go_loopw [3, 4] (fun u i wr => InRel f N g cp w.heap.size w u i wr) (fun _ i _ => N - (RowKit.intOf i).toNat)
      case atStart => exact ⟨0, F0, by omega, rfl, rfl, HK0.out, fun j hj => absurd hj (by omega), fun j _ hj => HC.out j hj, HB0.out⟩
      case round =>
        obtain ⟨k, F, hk, rfl, rfl, hR, hA, hZ, hbel⟩ := hrel
        have HK := Lib.hid hR
        have HA := Lib.hid hA
        have HZ := Lib.hid hZ
        have HB1 := Lib.hid hbel
        clear hR hA hZ hbel HK0 HB0
        by_cases hlt : 2 * k + 1 < N
        · have c1 : wr.cell? ⟨g, 2 * k, none⟩ = some (.string (f (2 * k))) := (HK.out.cell (by omega)).trans (by rw [HZ.out (2 * k) (by omega) (by omega)])
          have c2 : wr.cell? ⟨g, 2 * k + 1, none⟩ = some (.string (f (2 * k + 1))) := (HK.out.cell (by omega)).trans (by rw [HZ.out (2 * k + 1) (by omega) (by omega)])
          have k1 := cell_regrown c1
          have k2 := cell_regrown c2
          have hlt' : 2 * (k : Int) + 1 < N := by omega
          have cN : ∀ d os, Calls Tryd.prog 71 #[.string (f (2 * k)), .string (f (2 * k + 1))] (grow (redrawn wr d) os) fun e w'' => e = .returned (.string (nodeB (f (2 * k)) (f (2 * k + 1)))) ∧ ∃ p : Regrown, w'' = grow (redrawn wr p.d) p.os :=
            fun d os => Calls.regrown_of (node_any _ _ _ (HF.out _) (HF.out _))
          have n1 : (2 * (k : Int)).toNat = 2 * k := by omega
          have n2 : (2 * (k : Int) + 1).toNat = 2 * k + 1 := by omega
          clear c1 c2
          go_wp2_with fail
          refine wp_region_copy_tail_below 11 (by kernel_rfl) (by kernel_rfl) (Or.inl ⟨by kernel_rfl, fun _ => rfl⟩) ?_
          simp only [Nat.reduceSub, List.take_succ_cons, List.take_zero, List.drop_succ_cons, List.drop_zero]
          have b1 : (0 : Int) ≤ 2 * (k : Int) := by omega
          have b2 : 2 * (k : Int) < (N : Int) := by omega
          have b3 : (0 : Int) ≤ 2 * (k : Int) + 1 := by omega
          have b4 : 2 * k < N := by omega
          have hw : IntKind.i64.wrap (2 * (k : Int) + 1) = 2 * (k : Int) + 1 := IntWalk.i64_in _ (by omega)
          repeat quiet_step (with_reducible exact cN _ _)
          refine wpQuiet_nil ?_
          intro w6 hw6
          obtain ⟨⟨dq, osq⟩, hw''⟩ := hw6
          have hb6 : Below wr.heap.size wr w6 := by rw [hw'']; exact below_regrown wr dq osq
          have HB6 := Lib.hid hb6
          have HK6 := Lib.hid (HK.out.of_block (hb6.block g HK.out.lt))
          clear hw'' hb6 k1 k2 cN hw b1 b2 b3 b4 n1 n2
          have hfit : k + 1 ≤ cp := by omega
          have hK7 := HK6.out.alloc (.cells #[.string (nodeB (f (2 * k)) (f (2 * k + 1)))] 9)
          have HK7 := Lib.hid hK7
          have d1 := hK7.cell (i := k) (by omega)
          have fz := hK7.frozen k
          clear hK7
          go_wp2_with fail
          refine NoPanic.normal ?_
          have hset := HK7.out.set k (.string (nodeB (f (2 * k)) (f (2 * k + 1))))
          have HK8 := Lib.hid hset
          clear hset d1 fz
          go_wp2_with fail
          refine ⟨⟨k + 1, _, by omega, rfl, by congr 1, HK8.out, fun j hj => ?_, fun j h1 h2 => ?_, ?_⟩, ?_⟩
          · show (if j = k then _ else F j) = _
            by_cases hjk : j = k
            · subst hjk
              rw [if_pos rfl, pr, if_pos hlt]
            · rw [if_neg hjk]; exact HA.out j (by omega)
          · show (if j = k then _ else F j) = _
            rw [if_neg (by omega)]; exact HZ.out j (by omega) h2
          · have hsz := HB1.out.size
            have hsz6 := HB6.out.size
            exact ((HB1.out.trans (HB6.out.mono hsz)).alloc (by omega) _).setCell (p := ⟨g, k, none⟩) hg1 _
          · show N - (2 * (k : Int) + 2).toNat < N - (2 * (k : Int)).toNat
            omega
        · by_cases hodd : 2 * k < N
          · have hN : N = 2 * k + 1 := by omega
            have c1 : wr.cell? ⟨g, 2 * k, none⟩ = some (.string (f (2 * k))) := (HK.out.cell (by omega)).trans (by rw [HZ.out (2 * k) (by omega) (by omega)])
            have hfit : k + 1 ≤ cp := by omega
            have hK7 := HK.out.alloc (.cells #[.string (f (2 * k))] 9)
            have HK7 := Lib.hid hK7
            have d1 := hK7.cell (i := k) (by omega)
            have fz := hK7.frozen k
            clear hK7
            subst hN
            go_wp2_with fail
            refine ⟨⟨k + 1, pr f (2 * k + 1), by omega, by omega, ⟨g, cp, _, rfl, hg1, by omega, HK7.out.set k (.string (f (2 * k))), fun j hj => ?_⟩, ?_, pr_size _ HF.out, ?_⟩, ?_⟩
            · show (if j = k then _ else F j) = _
              by_cases hjk : j = k
              · subst hjk
                rw [if_pos rfl, pr, if_neg (by omega)]
              · rw [if_neg hjk]; exact HA.out j (by omega)
            · have := rootL_pr f (2 * k + 1) (2 * k + 1) 0 (by omega) (by omega) (by omega)
              rw [show (2 * k + 1 + 1) / 2 = k + 1 by omega] at this
              rw [← this]
              exact HR.out
            · have hsz := HB1.out.size
              exact (HB1.out.alloc hsz _).setCell (p := ⟨g, k, none⟩) hg1 _
            · show k + 1 < 2 * k + 1
              omega
          · have hN : N = 2 * k := by omega
            subst hN
            go_wp2_with fail
            refine ⟨⟨k, pr f (2 * k), by omega, by omega, ⟨g, cp, F, rfl, hg1, by omega, HK.out, HA.out⟩, ?_, pr_size _ HF.out, HB1.out⟩, ?_⟩
            · have := rootL_pr f (2 * k) (2 * k) 0 (by omega) (by omega) (by omega)
              rw [show (2 * k + 1) / 2 = k by omega] at this
              rw [← this]
              exact HR.out
            · show k < 2 * k
              omega
end Go.Proofs.YtobepddifflpdaaDoor
