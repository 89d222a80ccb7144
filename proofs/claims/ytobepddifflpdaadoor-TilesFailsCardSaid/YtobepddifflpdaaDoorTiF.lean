import Derived.Test.YtobepddifflpdaaDoorQtP
import Derived.Test.YtobepddifflpdaaDoorTiB
set_option linter.unusedVariables false
namespace Go.Proofs.YtobepddifflpdaaDoor
open Go Go.RowKit Go.Sort Go.Lib

/-! A region that draws its order, in which some operations yield their value in whatever world, and the others come up one by one: the former are taken first, one walk serves. -/
section
variable {P : Program} {ops : Array Oper} {md : Region.Mode}

def seqL (md : Region.Mode) (ops : Array Oper) : List Nat → Array Bool → Bool
  | [], s => (Region.ready md ops s).isEmpty
  | k :: ks, s => decide (Region.ready md ops s = [k]) && seqL md ops ks (s.setIfInBounds k true)
def pureL (md : Region.Mode) (ops : Array Oper) (rest : List Nat) : List Nat → Array Bool → Bool
  | [], s => seqL md ops rest s
  | k :: ks, s => (Region.ready md ops s).contains k && Region.free md ops s k && pureL md ops rest ks (s.setIfInBounds k true)
def pickL (ops : Array Oper) (ks : List Nat) : List Oper := ks.filterMap fun k => ops[k]?

def wpPure (P : Program) (ops : Array Oper) (K : Act → Prop) : List Oper → Act → Prop
  | [], a => K a
  | o :: rest, a => if Region.wanted o (yielded ops a.tmps) then ∃ v, (∀ w, (execOp a.eval o).run P w = .ok (.value v) w) ∧ wpPure P ops K rest (a.put o.dst v) else wpPure P ops K rest (a.put o.dst undef)
theorem wpPure_nil {K : Act → Prop} {a : Act} (h : K a) : wpPure P ops K [] a := h
theorem wpPure_step {K0 : Act → Prop} {a : Act} {o : Oper} {rest : List Oper}
    (h : ∀ K : Act → Prop, (∀ a, wpPure P ops K0 rest a → K a) → if Region.wanted o (yielded ops a.tmps) then ∃ v, (∀ w, (execOp a.eval o).run P w = .ok (.value v) w) ∧ K (a.put o.dst v) else K (a.put o.dst undef)) : wpPure P ops K0 (o :: rest) a :=
  h _ (fun _ h => h)

theorem pickL_cons {k : Nat} {ks : List Nat} {o : Oper} (h : ops[k]? = some o) : pickL ops (k :: ks) = o :: pickL ops ks := by
  unfold pickL
  rw [List.filterMap_cons, h]

theorem wpAny_of_seqL {Q : Exit → Act → World → Prop} : ∀ (ks : List Nat) (s : Array Bool) (a : Act) (w : World), seqL md ops ks s = true → wpList P ops Q (pickL ops ks) a w → wpAny P md ops Q ks.length s a w
  | [], s, a, w, hB, h => ⟨by simpa [seqL] using hB, h⟩
  | k :: ks, s, a, w, hB, h => by
    simp only [seqL, Bool.and_eq_true, decide_eq_true_eq] at hB
    have hk : k ∈ Region.ready md ops s := by rw [hB.1]; simp
    obtain ⟨_, o, ho, _⟩ := mem_ready.1 hk
    rw [pickL_cons ho] at h
    refine ⟨fun h1 => (by rw [hB.1] at h1; cases h1), fun i hi => ?_⟩
    rw [hB.1] at hi
    obtain rfl : i = k := by simpa using hi
    have hw : wpOp P ops Q i (wpList P ops Q (pickL ops ks)) a w := by unfold wpOp; simp only [ho]; exact h
    exact wpOp_mono (fun a' w' h' => wpAny_of_seqL ks _ a' w' hB.2 h') hw

theorem wpAny_of_pureL {Q : Exit → Act → World → Prop} {rest : List Nat} (hsel : Region.noSelect ops = true) : ∀ (ks : List Nat) (s : Array Bool) (a : Act) (w : World), pureL md ops rest ks s = true →
    wpPure P ops (fun a' => wpList P ops (NoPanic Q) (pickL ops rest) a' w) (pickL ops ks) a → wpAny P md ops (NoPanic Q) (rest.length + ks.length) s a w
  | [], s, a, w, hB, h => wpAny_of_seqL rest s a w hB h
  | k :: ks, s, a, w, hB, h => by
    simp only [pureL, Bool.and_eq_true] at hB
    obtain ⟨⟨hr, hf⟩, hB⟩ := hB
    have hk : k ∈ Region.ready md ops s := by simpa using hr
    obtain ⟨_, o, ho, _⟩ := mem_ready.1 hk
    rw [pickL_cons ho] at h
    unfold wpPure at h
    by_cases hw : Region.wanted o (yielded ops a.tmps) = true
    · rw [if_pos hw] at h
      obtain ⟨v, hv, h⟩ := h
      exact wpAny_take (Q := NoPanic Q) (i := k) ho hsel hf hr (fun _ _ _ h => h) (.inl ⟨hw, hv⟩) (wpAny_of_pureL hsel ks _ _ w hB h)
    · rw [if_neg hw] at h
      exact wpAny_take (Q := NoPanic Q) (i := k) ho hsel hf hr (fun _ _ _ h => h) (.inr ⟨by simpa using hw, rfl⟩) (wpAny_of_pureL hsel ks _ _ w hB h)

/-- the operations marked. -/
def selT (b : Bool) : List Oper → List Bool → List Oper
  | o :: l, c :: bs => if c = b then o :: selT b l bs else selT b l bs
  | _, _ => []
def idxT (b : Bool) : Nat → List Bool → List Nat
  | _, [] => []
  | k, c :: bs => if c = b then k :: idxT b (k + 1) bs else idxT b (k + 1) bs
theorem selT_tt (o : Oper) (l : List Oper) (bs : List Bool) : selT true (o :: l) (true :: bs) = o :: selT true l bs := rfl
theorem selT_tf (o : Oper) (l : List Oper) (bs : List Bool) : selT true (o :: l) (false :: bs) = selT true l bs := rfl
theorem selT_ft (o : Oper) (l : List Oper) (bs : List Bool) : selT false (o :: l) (true :: bs) = selT false l bs := rfl
theorem selT_ff (o : Oper) (l : List Oper) (bs : List Bool) : selT false (o :: l) (false :: bs) = o :: selT false l bs := rfl
theorem selT_nil (b : Bool) : selT b [] [] = [] := rfl
theorem selT_eq (b : Bool) : ∀ (l : List Oper) (bs : List Bool) (k : Nat), bs.length = l.length → (∀ j, l[j]? = ops[k + j]?) → selT b l bs = pickL ops (idxT b k bs)
  | [], [], _, _, _ => rfl
  | [], _ :: _, _, h, _ => by simp at h
  | _ :: _, [], _, h, _ => by simp at h
  | o :: l, c :: bs, k, hl, h => by
    have ih := selT_eq b l bs (k + 1) (by simpa using hl) (fun j => by have := h (j + 1); simpa [Nat.add_assoc, Nat.add_comm 1 j] using this)
    have h0 : ops[k]? = some o := by simpa using (h 0).symm
    unfold selT idxT
    by_cases hc : c = b
    · rw [if_pos hc, if_pos hc, pickL_cons h0, ih]
    · rw [if_neg hc, if_neg hc, ih]

theorem wp_region_pure_seq {id : Nat} {Q : Exit → Act → World → Prop} {a : Act} {w : World} {l : List Oper} (bs : List Bool) (hm : P.follows .mixedOrders = true)
    (hB : (Region.noSelect l.toArray && decide (bs.length = l.length) && decide ((idxT false 0 bs).length + (idxT true 0 bs).length = l.toArray.size) && pureL .any l.toArray (idxT false 0 bs) (idxT true 0 bs) (Array.replicate l.toArray.size false)) = true)
    (h : wpPure P l.toArray (fun a' => wpList P l.toArray (NoPanic Q) (selT false l bs) a' { w with drawn := w.drawn + 1 }) (selT true l bs) a) : (Code.region id l.toArray true).wp P Q a w := by
  simp only [Bool.and_eq_true, decide_eq_true_eq] at hB
  obtain ⟨⟨⟨hsel, hlen⟩, hsz⟩, hB⟩ := hB
  rw [selT_eq (ops := l.toArray) false l bs 0 hlen (fun j => by simp), selT_eq (ops := l.toArray) true l bs 0 hlen (fun j => by simp)] at h
  refine wp_region_noPanic (wp_region_any hm ?_)
  have := wpAny_of_pureL (Q := Q) hsel _ _ a _ hB h
  rw [hsz] at this
  exact this
end

theorem inclG_len (rt : Nat → Nat → ByteArray) : ∀ (n a i : Nat), (inclG rt a n i).length ≤ n := by
  intro n
  induction n using Nat.strongRecOn with
  | _ n ih =>
    intro a i
    by_cases h : n ≤ 1
    · rw [inclG_one _ _ _ _ h]; exact Nat.zero_le _
    · have hlt := pw_lt (n := n) (by omega)
      have hpos := pw_pos n
      rw [inclG_two _ _ _ _ (by omega)]
      split
      · rw [List.length_append]; have := ih (pw n) hlt a i; simp; omega
      · rw [List.length_append]; have := ih (n - pw n) (by omega) (a + pw n) (i - pw n); simp; omega
theorem partG_len (rt : Nat → Nat → ByteArray) : ∀ (n m a : Nat) (wh : Bool), 1 ≤ n → (partG rt m a n wh).length ≤ n := by
  intro n
  induction n using Nat.strongRecOn with
  | _ n ih =>
    intro m a wh h1
    by_cases h : n ≤ m ∨ n ≤ 1
    · rw [partG_end _ _ _ _ _ h]; split
      · exact Nat.zero_le _
      · exact h1
    · have hlt := pw_lt (n := n) (by omega)
      have hpos := pw_pos n
      rw [partG_two _ _ _ _ _ h]
      split
      · rw [List.length_append]; have := ih (pw n) hlt m a wh hpos; simp; omega
      · rw [List.length_append]; have := ih (n - pw n) (by omega) (m - pw n) (a + pw n) false (by omega); simp; omega

def IncPost (L : List ByteArray) (w : World) (e : Ending) (w' : World) : Prop := ∃ v, e = .returned v ∧ OwnS w' w.heap.size v L ∧ Below w.heap.size w w'

set_option maxRecDepth 100000 in
set_option maxHeartbeats 2000000 in
theorem refincl_any : ∀ (n pb po cap : Nat) (ps : Nat → ByteArray) (i : Nat) (w : World), i < n → n ≤ cap → n ≤ 100000 ∧ cap ≤ 9223372036854775807 → (∀ i, i < n → w.cell? ⟨pb, po + i, none⟩ = some (.string (ps (po + i)))) → (∀ i, (ps i).size ≤ 10000000000) →
    Calls Tryd.prog 53 #[.slice (some ⟨pb, po, none⟩) n cap, .int .i64 i] w (IncPost (inclG (rootL ps) po n i) w) := by
  obtain ⟨i0, hi0, hz0, hz1, hz2⟩ := info_parts infoStr
  have HI2 := Lib.hid hz2
  clear hz2
  intro n
  induction n using Nat.strongRecOn with
  | _ n ih =>
    intro pb po cap ps i w hin hcap hc2 hcell hsz
    have Hc := Lib.hid hcell
    have Hs := Lib.hid hsz
    have IH := Lib.hid ih
    clear hcell hsz ih
    by_cases hone : n = 1
    · subst hone
      go_enter Tryd.func53, Tryd.ntmps53
      go_wp2_with fail
      go_ret
      exact ⟨_, rfl, by rw [inclG_one _ _ _ _ (Nat.le_refl _)]; exact ownL_nil _ _, Below.refl _ _⟩
    · have h2 : 2 ≤ n := by omega
      go_enter Tryd.func53, Tryd.ntmps53
      go_wp2_with fail
      refine (power_any n w h2 (by omega)).mono ?_
      rintro e w1 ⟨rfl, rfl⟩
      have hk1 := pw_lt h2
      have hk0 := pw_pos n
      have hE := Lib.hid (inclG_two (rootL ps) po n i h2)
      have hL1 := inclG_len (rootL ps) (pw n) po i
      have hL2 := inclG_len (rootL ps) (n - pw n) (po + pw n) (i - pw n)
      generalize pw n = k at *
      have hc3 : k ≤ cap := by omega
      have hc4 : k ≤ n := by omega
      have hne : ¬ cap = k := by omega
      by_cases hlt : i < k
      · go_wp2_with fail
        refine wp_region_pure_seq [true, true, true, true, false, true, true, true, false, false, false, false] (by kernel_rfl) (by kernel_rfl) ?_
        simp only [selT_tt, selT_tf, selT_ft, selT_ff, selT_nil]
        repeat (refine wpPure_step (fun K hK => ?_); go_simp; refine hK _ ?_; clear hK K)
        refine wpPure_nil ?_
        change wpList _ _ _ _ _ w1.drew
        go_wp2_with fail
        refine (IH.out k hk1 pb po cap ps i w1.drew hlt (by omega) (by omega) (fun j hj => Hc.out j (by omega)) Hs.out).mono ?_
        rintro e w2 ⟨v, rfl, ho2, hb2⟩
        have hb2' : Below w1.heap.size w1 w2 := (Below.refl _ _).drew.trans hb2
        have HO2 := Lib.hid (show OwnS w2 w1.heap.size v (inclG (rootL ps) po k i) from ho2)
        have HB2 := Lib.hid hb2'
        have hsz2 := hb2'.size
        clear ho2 hb2 hb2'
        go_wp2_with fail
        refine (refroot_any (n - k) pb (po + k) (cap - k) ps w2 (by omega) (by omega) (by omega) (fun j hj => by rw [Nat.add_assoc]; exact (HB2.out.cell (p := ⟨pb, po + (k + j), none⟩) (cell_lt (Hc.out (k + j) (by omega)))).trans (Hc.out (k + j) (by omega))) Hs.out).mono ?_
        rintro e w3 ⟨rfl, hb3⟩
        have HO3 := Lib.hid (OwnL.below HO2.out hb3)
        have HB3 := Lib.hid (HB2.out.trans (hb3.mono hsz2))
        have hsz3 := hb3.size
        clear hb3 HO2
        go_wp2_with (first | (at_builtin; refine wpList_appL _ rfl _ _ 29 rfl i0 (.string ⟨#[]⟩) 16 Tryd.underlying29 hi0 hz0 hz1 HI2.out rfl (by decide) w1.heap.size _ (inclG (rootL ps) po k i) rfl (OwnL.alloc HO3.out _) (rootL ps (po + k) (n - k)) rfl ⟨w3.heap.size, 0, none⟩ 1 rfl (one_str w3 _ _) ?_ ?_ (by decide) ?_ ?_) | fail)
        · intro u hu; simp at hu; subst hu; rfl
        · omega
        · rw [size_alloc]; omega
        intro v4 w4 ho4 hg4 _
        have hB4 : Below w1.heap.size w1 w4 := (HB3.out.alloc HB3.out.size _).grown hg4 (by rw [size_alloc]; omega) (fun g hg => (OwnL.lt HO3.out g hg).1)
        have HO4 := Lib.hid ho4
        have HB4 := Lib.hid hB4
        clear ho4 hg4 hB4
        go_wp2_with fail
        refine NoPanic.normal ?_
        go_wp2_with fail
        go_ret
        refine ⟨_, rfl, ?_, HB4.out⟩
        rw [hE.out, if_pos hlt]
        exact HO4.out
      · obtain ⟨i', hi'⟩ : ∃ i', i' = i - k := ⟨_, rfl⟩
        have q1 : (i : Int) - (k : Int) = (i' : Int) := by omega
        have q2 : IntKind.i64.wrap ((i : Int) - (k : Int)) = (i' : Int) := by rw [q1]; exact IntWalk.i64_in _ (by omega)
        rw [← hi'] at hL2 hE
        have hi'lt : i' < n - k := by omega
        have hilen : i ≤ n := by omega
        have HI := Lib.hid hi'
        clear hi'
        go_wp2_with fail
        refine wp_region_pure_seq [true, true, true, true, true, true, false, true, true, true, false, false, false, false] (by kernel_rfl) (by kernel_rfl) ?_
        simp only [selT_tt, selT_tf, selT_ft, selT_ff, selT_nil]
        repeat (refine wpPure_step (fun K hK => ?_); go_simp; refine hK _ ?_; clear hK K)
        refine wpPure_nil ?_
        change wpList _ _ _ _ _ w1.drew
        go_wp2_with fail
        refine (IH.out (n - k) (by omega) pb (po + k) (cap - k) ps i' w1.drew hi'lt (by omega) (by omega) (fun j hj => by rw [Nat.add_assoc]; exact Hc.out (k + j) (by omega)) Hs.out).mono ?_
        rintro e w2 ⟨v, rfl, ho2, hb2⟩
        have hb2' : Below w1.heap.size w1 w2 := (Below.refl _ _).drew.trans hb2
        have HO2 := Lib.hid (show OwnS w2 w1.heap.size v (inclG (rootL ps) (po + k) (n - k) i') from ho2)
        have HB2 := Lib.hid hb2'
        have hsz2 := hb2'.size
        clear ho2 hb2 hb2'
        go_wp2_with fail
        refine (refroot_any k pb po cap ps w2 (by omega) (by omega) (by omega) (fun j hj => (HB2.out.cell (p := ⟨pb, po + j, none⟩) (cell_lt (Hc.out j (by omega)))).trans (Hc.out j (by omega))) Hs.out).mono ?_
        rintro e w3 ⟨rfl, hb3⟩
        have HO3 := Lib.hid (OwnL.below HO2.out hb3)
        have HB3 := Lib.hid (HB2.out.trans (hb3.mono hsz2))
        have hsz3 := hb3.size
        clear hb3 HO2
        go_wp2_with (first | (at_builtin; refine wpList_appL _ rfl _ _ 29 rfl i0 (.string ⟨#[]⟩) 16 Tryd.underlying29 hi0 hz0 hz1 HI2.out rfl (by decide) w1.heap.size _ (inclG (rootL ps) (po + k) (n - k) i') rfl (OwnL.alloc HO3.out _) (rootL ps po k) rfl ⟨w3.heap.size, 0, none⟩ 1 rfl (one_str w3 _ _) ?_ ?_ (by decide) ?_ ?_) | fail)
        · intro u hu; simp at hu; subst hu; rfl
        · omega
        · rw [size_alloc]; omega
        intro v4 w4 ho4 hg4 _
        have hB4 : Below w1.heap.size w1 w4 := (HB3.out.alloc HB3.out.size _).grown hg4 (by rw [size_alloc]; omega) (fun g hg => (OwnL.lt HO3.out g hg).1)
        have HO4 := Lib.hid ho4
        have HB4 := Lib.hid hB4
        clear ho4 hg4 hB4
        go_wp2_with fail
        refine NoPanic.normal ?_
        go_wp2_with fail
        go_ret
        refine ⟨_, rfl, ?_, HB4.out⟩
        rw [hE.out, if_neg hlt]
        exact HO4.out

theorem own_one (w : World) (base : Nat) (t : ByteArray) (hb : base ≤ w.heap.size) : OwnS (w.alloc (.cells #[.string t] 9)) base (.slice (some ⟨w.heap.size, 0, none⟩) 1 1) [t] :=
  ⟨by simp, .inr ⟨w.heap.size, 1, _, rfl, hb, blk_new _ _, Nat.le_refl _, by unfold maxLen; omega, rfl, rfl⟩⟩

set_option maxRecDepth 100000 in
set_option maxHeartbeats 2000000 in
theorem refpart_any : ∀ (n pb po cap : Nat) (ps : Nat → ByteArray) (m : Nat) (wh : Bool) (w : World), 1 ≤ m → m ≤ n → n ≤ cap → n ≤ 100000 ∧ cap ≤ 9223372036854775807 → (∀ i, i < n → w.cell? ⟨pb, po + i, none⟩ = some (.string (ps (po + i)))) → (∀ i, (ps i).size ≤ 10000000000) →
    Calls Tryd.prog 57 #[.int .i64 m, .slice (some ⟨pb, po, none⟩) n cap, .bool wh] w (IncPost (partG (rootL ps) m po n wh) w) := by
  obtain ⟨i0, hi0, hz0, hz1, hz2⟩ := info_parts infoStr
  have HI2 := Lib.hid hz2
  clear hz2
  intro n
  induction n using Nat.strongRecOn with
  | _ n ih =>
    intro pb po cap ps m wh w hm1 hmn hcap hc2 hcell hsz
    have Hc := Lib.hid hcell
    have Hs := Lib.hid hsz
    have IH := Lib.hid ih
    clear hcell hsz ih
    by_cases hone : m = n
    · subst hone
      have hE := Lib.hid (partG_end (rootL ps) m po m wh (Or.inl (Nat.le_refl _)))
      go_enter Tryd.func57, Tryd.ntmps57
      cases wh with
      | true =>
        go_wp2_with fail
        go_ret
        exact ⟨_, rfl, by rw [hE.out]; exact ownL_nil _ _, Below.refl _ _⟩
      | false =>
        go_wp2_with fail
        refine (refroot_any m pb po cap ps w hm1 hcap (by omega) Hc.out Hs.out).mono ?_
        rintro e w1 ⟨rfl, hb1⟩
        have HB1 := Lib.hid hb1
        have hsz1 := hb1.size
        clear hb1
        go_wp2_with fail
        go_ret
        exact ⟨_, rfl, by rw [hE.out]; exact own_one _ _ _ hsz1, HB1.out.alloc hsz1 _⟩
    · have h2 : 2 ≤ n := by omega
      have hmn2 : ¬ (m : Int) = (n : Int) := by omega
      go_enter Tryd.func57, Tryd.ntmps57
      go_wp2_with fail
      refine (power_any n w h2 (by omega)).mono ?_
      rintro e w1 ⟨rfl, rfl⟩
      have hk1 := pw_lt h2
      have hk0 := pw_pos n
      have hE := Lib.hid (partG_two (rootL ps) m po n wh (by omega))
      have hL1 := partG_len (rootL ps) (pw n) m po wh hk0
      have hL2 := partG_len (rootL ps) (n - pw n) (m - pw n) (po + pw n) false (by omega)
      generalize pw n = k at *
      have hc3 : k ≤ cap := by omega
      have hc4 : k ≤ n := by omega
      have hne : ¬ cap = k := by omega
      by_cases hlt : m ≤ k
      · go_wp2_with fail
        refine wp_region_pure_seq [true, true, true, true, true, false, true, true, true, false, false, false, false] (by kernel_rfl) (by kernel_rfl) ?_
        simp only [selT_tt, selT_tf, selT_ft, selT_ff, selT_nil]
        repeat (refine wpPure_step (fun K hK => ?_); go_simp; refine hK _ ?_; clear hK K)
        refine wpPure_nil ?_
        change wpList _ _ _ _ _ w1.drew
        go_wp2_with fail
        refine (IH.out k hk1 pb po cap ps m wh w1.drew hm1 hlt (by omega) (by omega) (fun j hj => Hc.out j (by omega)) Hs.out).mono ?_
        rintro e w2 ⟨v, rfl, ho2, hb2⟩
        have hb2' : Below w1.heap.size w1 w2 := (Below.refl _ _).drew.trans hb2
        have HO2 := Lib.hid (show OwnS w2 w1.heap.size v (partG (rootL ps) m po k wh) from ho2)
        have HB2 := Lib.hid hb2'
        have hsz2 := hb2'.size
        clear ho2 hb2 hb2'
        go_wp2_with fail
        refine (refroot_any (n - k) pb (po + k) (cap - k) ps w2 (by omega) (by omega) (by omega) (fun j hj => by rw [Nat.add_assoc]; exact (HB2.out.cell (p := ⟨pb, po + (k + j), none⟩) (cell_lt (Hc.out (k + j) (by omega)))).trans (Hc.out (k + j) (by omega))) Hs.out).mono ?_
        rintro e w3 ⟨rfl, hb3⟩
        have HO3 := Lib.hid (OwnL.below HO2.out hb3)
        have HB3 := Lib.hid (HB2.out.trans (hb3.mono hsz2))
        have hsz3 := hb3.size
        clear hb3 HO2
        go_wp2_with (first | (at_builtin; refine wpList_appL _ rfl _ _ 29 rfl i0 (.string ⟨#[]⟩) 16 Tryd.underlying29 hi0 hz0 hz1 HI2.out rfl (by decide) w1.heap.size _ (partG (rootL ps) m po k wh) rfl (OwnL.alloc HO3.out _) (rootL ps (po + k) (n - k)) rfl ⟨w3.heap.size, 0, none⟩ 1 rfl (one_str w3 _ _) ?_ ?_ (by decide) ?_ ?_) | fail)
        · intro u hu; simp at hu; subst hu; rfl
        · omega
        · rw [size_alloc]; omega
        intro v4 w4 ho4 hg4 _
        have hB4 : Below w1.heap.size w1 w4 := (HB3.out.alloc HB3.out.size _).grown hg4 (by rw [size_alloc]; omega) (fun g hg => (OwnL.lt HO3.out g hg).1)
        have HO4 := Lib.hid ho4
        have HB4 := Lib.hid hB4
        clear ho4 hg4 hB4
        go_wp2_with fail
        refine NoPanic.normal ?_
        go_wp2_with fail
        go_ret
        refine ⟨_, rfl, ?_, HB4.out⟩
        rw [hE.out, if_pos hlt]
        exact HO4.out
      · obtain ⟨m', hm'⟩ : ∃ m', m' = m - k := ⟨_, rfl⟩
        have q1 : (m : Int) - (k : Int) = (m' : Int) := by omega
        have q2 : IntKind.i64.wrap ((m : Int) - (k : Int)) = (m' : Int) := by rw [q1]; exact IntWalk.i64_in _ (by omega)
        rw [← hm'] at hL2 hE
        have hm'lt : m' ≤ n - k := by omega
        have hilen : m ≤ n := by omega
        have hm'1 : 1 ≤ m' := by omega
        have HI := Lib.hid hm'
        clear hm'
        go_wp2_with fail
        refine wp_region_pure_seq [true, true, true, true, true, true, false, true, true, true, false, false, false, false] (by kernel_rfl) (by kernel_rfl) ?_
        simp only [selT_tt, selT_tf, selT_ft, selT_ff, selT_nil]
        repeat (refine wpPure_step (fun K hK => ?_); go_simp; refine hK _ ?_; clear hK K)
        refine wpPure_nil ?_
        change wpList _ _ _ _ _ w1.drew
        go_wp2_with fail
        refine (IH.out (n - k) (by omega) pb (po + k) (cap - k) ps m' false w1.drew hm'1 hm'lt (by omega) (by omega) (fun j hj => by rw [Nat.add_assoc]; exact Hc.out (k + j) (by omega)) Hs.out).mono ?_
        rintro e w2 ⟨v, rfl, ho2, hb2⟩
        have hb2' : Below w1.heap.size w1 w2 := (Below.refl _ _).drew.trans hb2
        have HO2 := Lib.hid (show OwnS w2 w1.heap.size v (partG (rootL ps) m' (po + k) (n - k) false) from ho2)
        have HB2 := Lib.hid hb2'
        have hsz2 := hb2'.size
        clear ho2 hb2 hb2'
        go_wp2_with fail
        refine (refroot_any k pb po cap ps w2 (by omega) (by omega) (by omega) (fun j hj => (HB2.out.cell (p := ⟨pb, po + j, none⟩) (cell_lt (Hc.out j (by omega)))).trans (Hc.out j (by omega))) Hs.out).mono ?_
        rintro e w3 ⟨rfl, hb3⟩
        have HO3 := Lib.hid (OwnL.below HO2.out hb3)
        have HB3 := Lib.hid (HB2.out.trans (hb3.mono hsz2))
        have hsz3 := hb3.size
        clear hb3 HO2
        go_wp2_with (first | (at_builtin; refine wpList_appL _ rfl _ _ 29 rfl i0 (.string ⟨#[]⟩) 16 Tryd.underlying29 hi0 hz0 hz1 HI2.out rfl (by decide) w1.heap.size _ (partG (rootL ps) m' (po + k) (n - k) false) rfl (OwnL.alloc HO3.out _) (rootL ps po k) rfl ⟨w3.heap.size, 0, none⟩ 1 rfl (one_str w3 _ _) ?_ ?_ (by decide) ?_ ?_) | fail)
        · intro u hu; simp at hu; subst hu; rfl
        · omega
        · rw [size_alloc]; omega
        intro v4 w4 ho4 hg4 _
        have hB4 : Below w1.heap.size w1 w4 := (HB3.out.alloc HB3.out.size _).grown hg4 (by rw [size_alloc]; omega) (fun g hg => (OwnL.lt HO3.out g hg).1)
        have HO4 := Lib.hid ho4
        have HB4 := Lib.hid hB4
        clear ho4 hg4 hB4
        go_wp2_with fail
        refine NoPanic.normal ?_
        go_wp2_with fail
        go_ret
        refine ⟨_, rfl, ?_, HB4.out⟩
        rw [hE.out, if_neg hlt]
        exact HO4.out

/-- the document's proofs, with their errors. -/
def RPost (ok : Prop) (L : List ByteArray) (w : World) (e : Ending) (w' : World) : Prop :=
  ∃ v er l, e = .returned (.tuple #[v, .int .i64 er]) ∧ OwnS w' w.heap.size v l ∧ Below w.heap.size w w' ∧ (ok → er = 0 ∧ l = L) ∧ (¬ ok → er = 1 ∧ l = [])

set_option maxRecDepth 100000 in
theorem refInclusion_any (ao : Option Addr) (n cap : Nat) (ps : Nat → ByteArray) (i : Int) (w : World) (hn : n ≤ 100000) (h : HashS w (.slice ao n cap) n ps) :
    Calls Tryd.prog 21 #[.slice ao n cap, .int .i64 i] w (RPost (0 ≤ i ∧ i < n) (inclG (rootL ps) 0 n i.toNat) w) := by
  by_cases h0 : i < 0
  · go_enter Tryd.func21, Tryd.ntmps21
    go_wp2_with fail
    go_ret2
    exact ⟨_, _, [], rfl, ownL_nil _ _, Below.refl _ _, fun h => by omega, fun _ => ⟨rfl, rfl⟩⟩
  · by_cases h1 : (n : Int) ≤ i
    · go_enter Tryd.func21, Tryd.ntmps21
      go_wp2_with fail
      go_ret2
      exact ⟨_, _, [], rfl, ownL_nil _ _, Below.refl _ _, fun h => by omega, fun _ => ⟨rfl, rfl⟩⟩
    · obtain ⟨j, rfl⟩ := Int.eq_ofNat_of_zero_le (show 0 ≤ i by omega)
      have hjn : j < n := by omega
      obtain ⟨ao', cap', hsv, hc1, hc2, hc3, hc4⟩ := h
      injection hsv with e1 e2 e3
      subst e1
      subst e3
      obtain ⟨pb, rfl, hcells⟩ := hc4 (by omega)
      have HC := Lib.hid hcells
      have HS := Lib.hid hc3
      clear hcells hc3 hc4
      go_enter Tryd.func21, Tryd.ntmps21
      go_wp2_with fail
      refine (refincl_any n pb 0 cap ps j w hjn hc1 ⟨hn, hc2⟩ (fun i hi => by rw [Nat.zero_add]; exact HC.out i hi) (fun i => by rw [HS.out]; omega)).mono ?_
      rintro e w1 ⟨v, rfl, ho, hb⟩
      have HO := Lib.hid ho
      have HB := Lib.hid hb
      clear ho hb
      go_wp2_with fail
      go_ret2
      exact ⟨v, 0, _, rfl, HO.out, HB.out, fun _ => ⟨rfl, by rw [Int.toNat_natCast]⟩, fun h => absurd ⟨by omega, by omega⟩ h⟩

set_option maxRecDepth 100000 in
theorem refConsistency_any (ao : Option Addr) (n cap : Nat) (ps : Nat → ByteArray) (i : Int) (w : World) (hn : n ≤ 100000) (h : HashS w (.slice ao n cap) n ps) :
    Calls Tryd.prog 25 #[.slice ao n cap, .int .i64 i] w (RPost (0 ≤ i ∧ i ≤ n) (if i = 0 then [] else partG (rootL ps) i.toNat 0 n true) w) := by
  by_cases h0 : i < 0
  · go_enter Tryd.func25, Tryd.ntmps25
    go_wp2_with fail
    go_ret2
    exact ⟨_, _, [], rfl, ownL_nil _ _, Below.refl _ _, fun h => by omega, fun _ => ⟨rfl, rfl⟩⟩
  · by_cases h1 : (n : Int) < i
    · go_enter Tryd.func25, Tryd.ntmps25
      go_wp2_with fail
      go_ret2
      exact ⟨_, _, [], rfl, ownL_nil _ _, Below.refl _ _, fun h => by omega, fun _ => ⟨rfl, rfl⟩⟩
    · by_cases hz : i = 0
      · subst hz
        go_enter Tryd.func25, Tryd.ntmps25
        go_wp2_with fail
        go_ret2
        exact ⟨_, _, [], rfl, ownL_nil _ _, Below.refl _ _, fun _ => ⟨rfl, by first | rfl | exact (if_pos rfl).symm⟩, fun h => absurd (by first | trivial | exact ⟨by omega, by omega⟩) h⟩
      · obtain ⟨j, rfl⟩ := Int.eq_ofNat_of_zero_le (show 0 ≤ i by omega)
        have hjn : j ≤ n := by omega
        have hj1 : 1 ≤ j := by omega
        obtain ⟨ao', cap', hsv, hc1, hc2, hc3, hc4⟩ := h
        injection hsv with e1 e2 e3
        subst e1
        subst e3
        obtain ⟨pb, rfl, hcells⟩ := hc4 (by omega)
        have HC := Lib.hid hcells
        have HS := Lib.hid hc3
        have hE := Lib.hid (if_neg hz : (if (j : Int) = 0 then ([] : List ByteArray) else partG (rootL ps) (j : Int).toNat 0 n true) = _)
        clear hcells hc3 hc4
        go_enter Tryd.func25, Tryd.ntmps25
        go_wp2_with fail
        refine (refpart_any n pb 0 cap ps j true w hj1 hjn hc1 ⟨hn, hc2⟩ (fun i hi => by rw [Nat.zero_add]; exact HC.out i hi) (fun i => by rw [HS.out]; omega)).mono ?_
        rintro e w1 ⟨v, rfl, ho, hb⟩
        have HO := Lib.hid ho
        have HB := Lib.hid hb
        clear ho hb
        go_wp2_with fail
        go_ret2
        exact ⟨v, 0, _, rfl, HO.out, HB.out, fun _ => ⟨rfl, by first | rfl | rw [hE.out, Int.toNat_natCast]⟩, fun h => absurd (by first | trivial | exact ⟨by omega, by omega⟩) h⟩
end Go.Proofs.YtobepddifflpdaaDoor
