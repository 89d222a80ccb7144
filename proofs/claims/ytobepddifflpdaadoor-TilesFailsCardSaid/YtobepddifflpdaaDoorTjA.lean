import Derived.Test.YtobepddifflpdaaDoorTiF
import Derived.Test.YtobepddifflpdaaDoorTiB
import Derived.Test.YtobepddifflpdaaDoorTlW
import Derived.Lib.QuietBelow
set_option linter.unusedVariables false
namespace Go.Proofs.YtobepddifflpdaaDoor
open Go Go.RowKit Go.Lib Go.Sort Go.Maps Go.WideMaps

/-! the reference's root of any list -/
theorem refroot_zero (ao : Option Addr) (cap : Nat) (w : World) : Calls Tryd.prog 19 #[.slice ao 0 cap] w fun e w' => e = .returned (.string (shaB ⟨#[]⟩)) ∧ Below w.heap.size w w' := by
  have hs := refsum_any none 0 0 (fun _ => ⟨#[]⟩) w (fun i hi => absurd hi (by omega)) (by decide) (by rw [catN_zero]; decide)
  rw [catN_zero] at hs
  go_enter Tryd.func19, Tryd.ntmps19
  go_wp2_with fail
  refine hs.mono ?_
  rintro e w1 ⟨rfl, hb⟩
  have HB := Lib.hid hb
  clear hb hs
  go_wp2_with fail
  go_ret
  exact ⟨rfl, HB.out⟩
theorem refroot_hash (ao : Option Addr) (n cap k : Nat) (ps : Nat → ByteArray) (w : World) (hn : n ≤ 100000) (hk : k ≤ n) (h : HashS w (.slice ao n cap) n ps) :
    Calls Tryd.prog 19 #[.slice ao k cap] w fun e w' => e = .returned (.string (rootL ps 0 k)) ∧ Below w.heap.size w w' := by
  by_cases h0 : k = 0
  · subst h0
    rw [rootL_zero]
    exact refroot_zero ao cap w
  · obtain ⟨ao', cap', hsv, hc1, hc2, hc3, hc4⟩ := h
    injection hsv with e1 e2 e3
    subst e1
    subst e3
    obtain ⟨pb, rfl, hcells⟩ := hc4 (by omega)
    exact refroot_any k pb 0 cap ps w (by omega) (by omega) ⟨by omega, hc2⟩ (fun i hi => by rw [Nat.zero_add]; exact hcells i (by omega)) (fun i => by rw [hc3]; omega)

/-! texts alike -/
def StRel (w : World) (i : Value) (n : Nat) (wr : World) : Prop := ∃ k : Nat, k ≤ n ∧ i = .int .i64 k ∧ Below w.heap.size w wr
set_option maxRecDepth 100000 in
set_option maxHeartbeats 1000000 in
theorem sametexts_any (v1 v2 : Value) (b1 b2 : Nat) (L : List ByteArray) (w : World) (h1 : OwnS w b1 v1 L) (h2 : OwnS w b2 v2 L) (hlen : L.length ≤ 2000) :
    Calls Tryd.prog 22 #[v1, v2] w fun e w' => e = .returned (.bool true) ∧ Below w.heap.size w w' := by
  obtain ⟨ao, cp, rfl, hc1, hc2, hq⟩ := cells_of_ownS h1
  obtain ⟨ao', cp', rfl, hc1', hc2', hq'⟩ := cells_of_ownS h2
  have HQ := Lib.hid hq
  have HQ' := Lib.hid hq'
  clear h1 h2 hq hq'
  go_enter Tryd.func22, Tryd.ntmps22
  go_wp2_with fail
  go_loopw [5] (fun i wr => StRel w i L.length wr) (fun i _ => L.length - (RowKit.intOf i).toNat)
  case atStart => exact ⟨0, Nat.zero_le _, rfl, Below.refl _ _⟩
  case round =>
    obtain ⟨k, hk, rfl, hbel⟩ := hrel
    have HB := Lib.hid hbel
    clear hbel
    by_cases hlt : k < L.length
    · obtain ⟨t, ht⟩ : ∃ t, L[k]? = some t := ⟨_, List.getElem?_eq_getElem hlt⟩
      obtain ⟨g, rfl, q0⟩ := HQ.out k t ht
      obtain ⟨g', rfl, r0⟩ := HQ'.out k t ht
      have k0 := cell_regrown ((HB.out.cell (p := ⟨g, k, none⟩) (cell_lt q0)).trans q0)
      have l0 := cell_regrown ((HB.out.cell (p := ⟨g', k, none⟩) (cell_lt r0)).trans r0)
      clear ht q0 r0
      go_wp2_with fail
      refine wp_region_quiet_below (by kernel_rfl) (by kernel_rfl) ?_
      repeat quiet_step (fail)
      refine wpQuiet_nil ?_
      intro w2 hw2
      obtain ⟨⟨dq, osq⟩, hw''⟩ := hw2
      have hb2 : Below wr.heap.size wr w2 := by rw [hw'']; exact below_regrown wr dq osq
      have HB2 := Lib.hid (HB.out.trans (hb2.mono HB.out.size))
      clear hw'' hb2 k0 l0
      go_wp2_with fail
      refine ⟨⟨k + 1, hlt, rfl, HB2.out⟩, ?_⟩
      show L.length - ((k : Int) + 1).toNat < L.length - (k : Int).toNat
      omega
    · obtain rfl : k = L.length := by omega
      go_wp2_with fail
      go_ret
      exact ⟨rfl, HB.out⟩

/-! what is asked for is a tile of the list -/
theorem inT_mem {k l i x : Nat} (hk : k ≤ 1024) (h : InT k l i x) : (l, i, x) ∈ allT k := by
  obtain ⟨h1, h2, h3⟩ := h
  have hl := level_le hk (show 0 < k / 2 ^ (2 * l) by omega)
  unfold allT
  refine List.mem_flatMap.2 ⟨l, List.mem_range.2 (by omega), ?_⟩
  unfold lvlT
  refine List.mem_map.2 ⟨i, List.mem_range.2 (by omega), ?_⟩
  rw [h3]
theorem mem_inT {k l i x : Nat} (h : (l, i, x) ∈ allT k) : InT k l i x := by
  unfold allT at h
  obtain ⟨l', hl', h⟩ := List.mem_flatMap.1 h
  unfold lvlT at h
  obtain ⟨i', hi', h⟩ := List.mem_map.1 h
  have e := Prod.mk.inj h
  have e2 := Prod.mk.inj e.2
  obtain ⟨rfl, rfl, rfl⟩ : l' = l ∧ i' = i ∧ _ = x := ⟨e.1, e2.1, e2.2⟩
  have h1 := List.mem_range.1 hl'
  have h2 := List.mem_range.1 hi'
  exact ⟨by omega, by omega, rfl⟩

/-! roots out of nodes are roots out of leaves -/
theorem inclG_congr (f g : Nat → Nat → ByteArray) (h : ∀ a n, Cut a n → f a n = g a n) : ∀ (n a i : Nat), Cut a n → inclG f a n i = inclG g a n i := by
  intro n
  induction n using Nat.strongRecOn with
  | _ n ih =>
    intro a i hc
    by_cases h1 : n ≤ 1
    · rw [inclG_one _ _ _ _ h1, inclG_one _ _ _ _ h1]
    · have hlt := pw_lt (n := n) (by omega)
      have hle := pw_le (n := n) (by omega)
      have hpos := pw_pos n
      have hl : Cut a (pw n) := (cut_left hc hlt).1
      have hr : Cut (a + pw n) (n - pw n) := cut_right hc hlt (by rw [Nat.pow_succ]; unfold pw at hle; omega)
      rw [inclG_two f a n i (by omega), inclG_two g a n i (by omega), ih _ hlt a i hl, ih _ (by omega) _ _ hr, h _ _ hl, h _ _ hr]
theorem partG_congr (f g : Nat → Nat → ByteArray) (h : ∀ a n, Cut a n → f a n = g a n) : ∀ (n a m : Nat) (wh : Bool), Cut a n → partG f m a n wh = partG g m a n wh := by
  intro n
  induction n using Nat.strongRecOn with
  | _ n ih =>
    intro a m wh hc
    by_cases h1 : n ≤ m ∨ n ≤ 1
    · rw [partG_end _ _ _ _ _ h1, partG_end _ _ _ _ _ h1, h _ _ hc]
    · have hlt := pw_lt (n := n) (by omega)
      have hle := pw_le (n := n) (by omega)
      have hpos := pw_pos n
      have hl : Cut a (pw n) := (cut_left hc hlt).1
      have hr : Cut (a + pw n) (n - pw n) := cut_right hc hlt (by rw [Nat.pow_succ]; unfold pw at hle; omega)
      rw [partG_two f m a n wh h1, partG_two g m a n wh h1, ih _ hlt a m wh hl, ih _ (by omega) _ _ _ hr, h _ _ hl, h _ _ hr]
theorem incl_nodes (ps : Nat → ByteArray) (n i : Nat) : inclG (rootV (nodeL ps)) 0 n i = inclG (rootL ps) 0 n i := inclG_congr _ _ (fun a n h => rootV_nodeL ps n a h) n 0 i (cut_zero n)
theorem part_nodes (ps : Nat → ByteArray) (n m : Nat) : partG (rootV (nodeL ps)) m 0 n true = partG (rootL ps) m 0 n true := partG_congr _ _ (fun a n h => rootV_nodeL ps n a h) n 0 m true (cut_zero n)

/-! where a law that asks over files stands -/
structure St (fb : Nat) (hv : Value) (n : Nat) (gone long : ByteArray) (w0 w : World) (s : Value × List ByteArray) : Prop where
  fa : FilesAt w fb hv n leafK gone long s.1 s.2
  tb : Tabs w
  bl : Below w0.heap.size w0 w
  sb : ∀ k, FileS fb s.1 k → w0.heap.size ≤ k
def FileR (fb : Nat) (hv : Value) (s : Value × List ByteArray) (k : Nat) : Prop := k = fb ∨ s.1.ownBlock = some k ∨ hv.ownBlock = some k
def Pr (fb : Nat) (hv : Value) (w : World) (s : Value × List ByteArray) (v : Value) (l : List ByteArray) : Prop := ∃ b, OwnS w b v l ∧ ∀ g, v.ownBlock = some g → ¬ FileR fb hv s g

theorem St.below {fb : Nat} {hv : Value} {n : Nat} {gone long : ByteArray} {w0 w w' : World} {s : Value × List ByteArray} (h : St fb hv n gone long w0 w s) (k : Below w.heap.size w w') : St fb hv n gone long w0 w' s :=
  ⟨h.fa.below k, h.tb.below k, h.bl.trans (k.mono h.bl.size), h.sb⟩
theorem St.out {fb : Nat} {hv : Value} {n m c : Nat} {gone long : ByteArray} {w0 w w' : World} {s s' : Value × List ByteArray} {e : Int} {hn : n ≤ 1000} (h : St fb hv n gone long w0 w s)
    (k : Out (filesSrc fb hv n leafK gone long hn leafK_size) m c w s w' e s') : St fb hv n gone long w0 w' s' := by
  have hsz := h.bl.size
  refine ⟨k.src, k.tabs, h.bl.trans (k.kp.toBelow hsz (fun i hi => h.sb i hi)), fun i hi => ?_⟩
  rcases k.sg i hi with h1 | h1
  · exact h.sb i h1
  · omega
theorem Pr.below {fb : Nat} {hv : Value} {w w' : World} {s : Value × List ByteArray} {v : Value} {l : List ByteArray} (h : Pr fb hv w s v l) (k : Below w.heap.size w w') : Pr fb hv w' s v l := by
  obtain ⟨b, h1, h2⟩ := h
  exact ⟨b, OwnL.below h1 k, h2⟩
theorem Pr.out {fb : Nat} {hv : Value} {n m c : Nat} {gone long : ByteArray} {w w' : World} {s s' : Value × List ByteArray} {v : Value} {l : List ByteArray} {e : Int} {hn : n ≤ 1000} (h : Pr fb hv w s v l)
    (k : Out (filesSrc fb hv n leafK gone long hn leafK_size) m c w s w' e s') : Pr fb hv w' s' v l := by
  obtain ⟨b, h1, h2⟩ := h
  refine ⟨b, OwnL.kp h1 k.kp (fun g hg hs => h2 g hg (hs.elim .inl (fun h => .inr (.inl h)))), fun g hg hr => ?_⟩
  rcases k.rg g hr with h3 | h3
  · exact h2 g hg h3
  · have := (OwnL.lt h1 g hg).2
    omega
/-- a new list. -/
theorem Pr.new {fb : Nat} {hv : Value} {n : Nat} {gone long : ByteArray} {w w' : World} {s : Value × List ByteArray} {v : Value} {l : List ByteArray} (h : FilesAt w fb hv n leafK gone long s.1 s.2) (h1 : OwnS w' w.heap.size v l) : Pr fb hv w' s v l := by
  refine ⟨_, h1, fun g hg hr => ?_⟩
  have := (OwnL.lt h1 g hg).1
  rcases hr with rfl | hr | hr
  · have := (Array.getElem?_eq_some_iff.1 h.blk).1; omega
  · have := (h.own.lt g hr).2; omega
  · have := (h.hlt g hr).1; omega
theorem St.hs {fb : Nat} {hv : Value} {n : Nat} {gone long : ByteArray} {w0 w : World} {s : Value × List ByteArray} (h : St fb hv n gone long w0 w s) : HashS w hv n leafK := h.fa.hs

/-- a proof out of files, or the refusal. -/
def FPost (fb : Nat) (hv : Value) (n k : Nat) (gone long : ByteArray) (hn : n ≤ 1000) (ok : Prop) (L : List ByteArray) (w : World) (s : Value × List ByteArray) (en : Ending) (w' : World) : Prop :=
  ∃ v er e' s' l, en = .returned (.tuple #[v, .int .i64 er]) ∧ Out (filesSrc fb hv n leafK gone long hn leafK_size) k (2 * k) w s w' e' s' ∧ Pr fb hv w' s' v l ∧ (ok → er = e' ∧ (e' = 0 → l = L) ∧ (e' ≠ 0 → l = [])) ∧ (¬ ok → er = 1 ∧ l = [] ∧ s' = s)

theorem fincl_any (fb : Nat) (hv : Value) (n k : Nat) (gone long : ByteArray) (hn : n ≤ 1000) (i : Int) (w0 w : World) (s : Value × List ByteArray) (h : St fb hv n gone long w0 w s) (hkn : k ≤ n) (hl : s.2.length ≤ 100000000) :
    Calls Tryd.prog 20 #[.iface 40 (.pointer (some ⟨fb, 0, none⟩)), .int .i64 k, .int .i64 i] w (FPost fb hv n k gone long hn (0 ≤ i ∧ i < k) (inclG (rootL leafK) 0 k i.toNat) w s) := by
  by_cases hi : 0 ≤ i ∧ i < k
  · obtain ⟨j, rfl⟩ := Int.eq_ofNat_of_zero_le hi.1
    refine (tincl_ok (filesSrc fb hv n leafK gone long hn leafK_size) k j (nodeL leafK) (vals_files _ _ _ _ _ _ _ _ _ (by omega)) w s h.fa h.tb (by omega) (by omega) (by show s.2.length ≤ _; omega)).mono ?_
    rintro en w' ⟨v, e', s', l, rfl, hO, hown, hr, h1, h2⟩
    refine ⟨v, e', e', s', l, rfl, hO, ⟨_, hown, hr⟩, fun _ => ⟨rfl, fun he => ?_, h2⟩, fun hh => absurd hi hh⟩
    rw [h1 he, Int.toNat_natCast, incl_nodes]
  · refine (tincl_arg (filesSrc fb hv n leafK gone long hn leafK_size) k i w s h.fa h.tb (by omega) (by omega)).mono ?_
    rintro en w' ⟨rfl, hO⟩
    exact ⟨_, 1, 0, s, [], rfl, ⟨hO.src, hO.kp, hO.tabs, hO.rg, hO.sg, hO.ev.mono (Nat.zero_le _)⟩, ⟨0, ownL_nil _ _, fun g hg => by cases hg⟩, fun hh => absurd hh hi, fun _ => ⟨rfl, rfl, rfl⟩⟩

theorem fcons_any (fb : Nat) (hv : Value) (n k : Nat) (gone long : ByteArray) (hn : n ≤ 1000) (i : Int) (w0 w : World) (s : Value × List ByteArray) (h : St fb hv n gone long w0 w s) (hkn : k ≤ n) (hl : s.2.length ≤ 100000000) :
    Calls Tryd.prog 23 #[.iface 40 (.pointer (some ⟨fb, 0, none⟩)), .int .i64 k, .int .i64 i] w (FPost fb hv n k gone long hn (0 ≤ i ∧ i ≤ k) (if i = 0 then [] else partG (rootL leafK) i.toNat 0 k true) w s) := by
  by_cases hi : 0 ≤ i ∧ i ≤ k
  · obtain ⟨j, rfl⟩ := Int.eq_ofNat_of_zero_le hi.1
    by_cases hj : j = 0
    · subst hj
      refine (tcons_zero (filesSrc fb hv n leafK gone long hn leafK_size) k w s h.fa h.tb (by omega)).mono ?_
      rintro en w' ⟨v, e', s', l, rfl, hO, hown, hr, h1, h2⟩
      exact ⟨v, e', e', s', l, rfl, hO, ⟨_, hown, hr⟩, fun _ => ⟨rfl, fun he => by rw [h1 he]; exact (if_pos rfl).symm, h2⟩, fun hh => absurd hi hh⟩
    · refine (tcons_ok (filesSrc fb hv n leafK gone long hn leafK_size) k j (nodeL leafK) (vals_files _ _ _ _ _ _ _ _ _ (by omega)) w s h.fa h.tb (by omega) (by omega) (by omega) (by show s.2.length ≤ _; omega)).mono ?_
      rintro en w' ⟨v, e', s', l, rfl, hO, hown, hr, h1, h2⟩
      refine ⟨v, e', e', s', l, rfl, hO, ⟨_, hown, hr⟩, fun _ => ⟨rfl, fun he => ?_, h2⟩, fun hh => absurd hi hh⟩
      rw [h1 he, part_nodes, if_neg (by omega), Int.toNat_natCast]
  · refine (tcons_arg (filesSrc fb hv n leafK gone long hn leafK_size) k i w s h.fa h.tb (by omega) (by omega)).mono ?_
    rintro en w' ⟨rfl, hO⟩
    exact ⟨_, 1, 0, s, [], rfl, ⟨hO.src, hO.kp, hO.tabs, hO.rg, hO.sg, hO.ev.mono (Nat.zero_le _)⟩, ⟨0, ownL_nil _ _, fun g hg => by cases hg⟩, fun hh => absurd hh hi, fun _ => ⟨rfl, rfl, rfl⟩⟩

def FRPost (fb : Nat) (hv : Value) (n k : Nat) (gone long : ByteArray) (hn : n ≤ 1000) (w : World) (s : Value × List ByteArray) (en : Ending) (w' : World) : Prop :=
  ∃ t e' s', en = .returned (.tuple #[.string t, .int .i64 e']) ∧ Out (filesSrc fb hv n leafK gone long hn leafK_size) k (2 * k) w s w' e' s' ∧ (e' = 0 → t = rootL leafK 0 k) ∧ (e' ≠ 0 → t = ⟨#[]⟩)
theorem froot_any (fb : Nat) (hv : Value) (n k : Nat) (gone long : ByteArray) (hn : n ≤ 1000) (w0 w : World) (s : Value × List ByteArray) (h : St fb hv n gone long w0 w s) (hkn : k ≤ n) (hl : s.2.length ≤ 100000000) :
    Calls Tryd.prog 18 #[.iface 40 (.pointer (some ⟨fb, 0, none⟩)), .int .i64 k] w (FRPost fb hv n k gone long hn w s) := by
  refine (troot_any (filesSrc fb hv n leafK gone long hn leafK_size) k (nodeL leafK) (vals_files _ _ _ _ _ _ _ _ _ (by omega)) w s h.fa h.tb (by omega) (by show s.2.length ≤ _; omega)).mono ?_
  rintro en w' ⟨t, e', s', rfl, hO, h1, h2⟩
  exact ⟨t, e', s', rfl, hO, fun he => by rw [h1 he, rootV_nodeL leafK k 0 (cut_zero k)], h2⟩
end Go.Proofs.YtobepddifflpdaaDoor
