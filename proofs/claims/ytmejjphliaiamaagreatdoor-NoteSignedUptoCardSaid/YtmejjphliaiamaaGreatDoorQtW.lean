import Derived.Test.YtmejjphliaiamaaGreatDoorQt
set_option linter.unusedVariables false
namespace Go.Proofs.YtmejjphliaiamaaGreatDoor
open Go Go.RowKit Go.Sort

/-! A region that draws its order: a head that is quiet, ONE operation that may turn the world, then operations that only move values about, in whatever order: one walk serves. -/
section
variable {P : Program} {ops : Array Oper} {md : Region.Mode} {C : World → Prop}

def chainW (md : Region.Mode) (ops : Array Oper) (n : Nat) : Bool :=
  (List.range ops.size).all fun t => decide (t ≤ n) || (List.range t).any fun j => decide (n ≤ j) && Region.waitsFor md ops t j

theorem tail_waitsW {n : Nat} {listed : Array Bool} (hs : Region.sinkB md ops n = true) (hc : chainW md ops n = true) (hn : n < ops.size) (inv : HeadInv md ops n listed) :
    ∀ (d i : Nat), n - i = d → i < n → listed.getD i true = false → ∀ t, n ≤ t → t ∉ Region.ready md ops listed := by
  intro d
  induction d using Nat.strongRecOn with
  | _ d ih =>
    intro i hd hi hun t ht hr
    obtain ⟨_, ot, hot, hall⟩ := mem_ready.1 hr
    have htlt : t < ops.size := (Array.getElem?_eq_some_iff.1 hot).1
    by_cases htn : t = n
    · subst htn
      have h1 := List.all_eq_true.1 hs i (List.mem_range.2 hi)
      obtain ⟨j, hj, hj2⟩ := List.any_eq_true.1 h1
      simp only [Bool.and_eq_true, decide_eq_true_eq] at hj2
      obtain ⟨oj, hoj, e, he, hb, hon⟩ := Region.waitsFor_spec hj2.2
      have hjle : j ≤ t := by have := List.mem_range.1 hj; omega
      by_cases hjt : j = t
      · subst hjt
        have : oj = ot := Option.some.inj (hoj.symm.trans hot)
        subst this
        have h2 := hall e he hb
        rw [hon, getD_both hun] at h2
        cases h2
      · cases hl : listed.getD j false with
        | true =>
          have h2 := inv.closed j oj hoj hl e he hb
          rw [hon, getD_both hun] at h2
          cases h2
        | false =>
          have hjs : j < listed.size := by rw [inv.size]; omega
          exact ih (t - j) (by omega) j rfl (by omega) (getD_in hjs hl) t (Nat.le_refl _) hr
    · have h1 := List.all_eq_true.1 hc t (List.mem_range.2 htlt)
      simp only [Bool.or_eq_true, decide_eq_true_eq] at h1
      rcases h1 with h1 | h1
      · omega
      · obtain ⟨j, hj, hj2⟩ := List.any_eq_true.1 h1
        simp only [Bool.and_eq_true, decide_eq_true_eq] at hj2
        obtain ⟨o', ho', e, he, hb, hon⟩ := Region.waitsFor_spec hj2.2
        have : o' = ot := Option.some.inj (ho'.symm.trans hot)
        subst this
        have h2 := hall e he hb
        rw [hon, getD_both (inv.tail j hj2.1 (by have := List.mem_range.1 hj; omega))] at h2
        cases h2

theorem headAny_firstW {n i : Nat} {o : Oper} {v : Value} {L : Array Bool → Act → Prop} (hi : ops[i]? = some o) (hsel : ∀ (j : Nat) (o : Oper) cs b, ops[j]? = some o → o.op ≠ .select cs b)
    (hs : Region.sinkB md ops n = true) (hc : chainW md ops n = true) (hn : n < ops.size) (hin : i < n) (hend : ∀ s a, L s a → ∀ j ∈ Region.ready md ops s, n ≤ j) :
    ∀ (f : Nat) (s : Array Bool) (a : Act), HeadInv md ops n s →
      (∀ j oj, ops[j]? = some oj → j ≠ i → s.getD j true = false → (∀ e ∈ oj.after, Region.binds md e = true → e.on ≠ i) → o.apart ops oj = true) →
      i ∈ Region.ready md ops s → YieldsIn P ops C o v a → headAny P md ops C n L f (s.setIfInBounds i true) (a.put o.dst v) → headAny P md ops C n L (f + 1) s a := by
  intro f
  induction f with
  | zero =>
    intro s a inv _ hr hy H
    refine ⟨(fun h0 => by rw [h0] at hr; cases hr), fun j hj => ?_⟩
    have hjn : j < n := Nat.lt_of_not_le fun hle => tail_waitsW hs hc hn inv _ i rfl hin (mem_ready.1 hr).1 j hle hj
    by_cases e : j = i
    · rw [e]; exact ⟨hin, hy.qOp hi H⟩
    · exact absurd (hend _ _ H j (ready_mono hj e)) (by omega)
  | succ f ih =>
    intro s a inv free hr hy H
    have hun := (mem_ready.1 hr).1
    refine ⟨(fun h0 => by rw [h0] at hr; cases hr), fun j hj => ?_⟩
    have hjn : j < n := Nat.lt_of_not_le fun hle => tail_waitsW hs hc hn inv _ i rfl hin hun j hle hj
    by_cases e : j = i
    · rw [e]; exact ⟨hin, hy.qOp hi H⟩
    · obtain ⟨hjun, oj, hoj, hall⟩ := mem_ready.1 hj
      have later := (H.2 j (ready_mono hj e)).2
      have nowait : ∀ x ∈ oj.after, Region.binds md x = true → x.on ≠ i := fun x hx hb h1 => by
        have h2 := hall x hx hb
        rw [h1, getD_both hun] at h2
        cases h2
      refine ⟨hjn, qOp_mono (fun a' h3 => ih (s.setIfInBounds j true) a' (inv.set hj hjn) (fun k ok hk hki hkun hno => free k ok hk hki ?_ hno) (ready_mono hr (Ne.symm e)) h3.1 ?_)
        (qOp_put hoj (free j oj hoj e hjun nowait) (fun cs b => hsel i o cs b hi) (fun cs b => hsel j oj cs b hoj) hy later)⟩
      · by_cases hjk : j = k
        · rw [← hjk]; exact hjun
        · rwa [getD_set_ne true hjk] at hkun
      · rw [Array.setIfInBounds_comm _ _ e]
        exact h3.2

/-- behind the head: operation k alone is ready; what is behind it may be walked in the text's order. -/
def midB (md : Region.Mode) (ops : Array Oper) (g k : Nat) (s : Array Bool) : Bool := decide (Region.ready md ops s = [k]) && Region.lexFrom md ops g (k + 1) (s.setIfInBounds k true)
def lexHeadM (md : Region.Mode) (ops : Array Oper) (g : Nat) : Nat → Nat → Array Bool → Bool
  | 0, k, listed => midB md ops g k listed
  | f + 1, k, listed => (Region.ready md ops listed).contains k && Region.free md ops listed k && lexHeadM md ops g f (k + 1) (listed.setIfInBounds k true)
def lexMidB (md : Region.Mode) (ops : Array Oper) (n : Nat) : Bool :=
  Region.noSelect ops && decide (n < ops.size) && Region.sinkB md ops n && chainW md ops n && lexHeadM md ops (ops.size - n - 1) n 0 (Array.replicate ops.size false)

theorem headAny_lexM {n g : Nat} {Lq : Act → Prop} (hsel : Region.noSelect ops = true) (hs : Region.sinkB md ops n = true) (hc : chainW md ops n = true) (hn : n < ops.size) :
    ∀ (l : List Oper) (k : Nat) (s : Array Bool) (a : Act), (∀ j, j < l.length → l[j]? = ops[k + j]?) → k + l.length = n → HeadInv md ops n s → lexHeadM md ops g l.length k s = true →
      wpQuiet P ops C Lq l a → headAny P md ops C n (fun s' a' => midB md ops g n s' = true ∧ Lq a') l.length s a := by
  intro l
  induction l with
  | nil =>
    intro k s a _ hk _ hB h
    obtain rfl : k = n := hk
    exact ⟨hB, h⟩
  | cons o l ih =>
    intro k s a hl hk inv hB h
    have h0 : ops[k]? = some o := (hl 0 (by simp)).symm
    rw [List.length_cons] at hk hB
    simp only [lexHeadM, Bool.and_eq_true] at hB
    obtain ⟨⟨hr, hf⟩, hB⟩ := hB
    have hr : k ∈ Region.ready md ops s := by simpa using hr
    have h1 : qOp P ops C k (wpQuiet P ops C Lq l) a := by unfold qOp; rw [h0]; exact h
    obtain ⟨v, hy, hK⟩ := yieldsIn_of_qOp h0 h1
    refine headAny_firstW h0 (Region.noSelect_spec hsel) hs hc hn (by omega) (fun s' a' hL => ?_) l.length s a inv (Region.free_spec h0 hf) hr hy
      (ih (k + 1) _ _ (fun j hj => by have h2 := hl (j + 1) (by simp; omega); rwa [Nat.add_assoc, Nat.add_comm 1 j]) (by omega) (inv.set hr (by omega)) hB hK)
    intro j hj
    have h3 := hL.1
    simp only [midB, Bool.and_eq_true, decide_eq_true_eq] at h3
    rw [h3.1] at hj
    have : j = n := by simpa using hj
    omega

/-- an operation that only moves a value. -/
def pureOp (o : Oper) : Bool := o.guard.isNone && match o.op with
  | .move _ | .assign _ | .extract _ _ => true
  | _ => false
theorem pure_of_list {Q : Exit → Act → World → Prop} {w : World} : ∀ (l : List Oper) (a : Act), l.all pureOp = true → wpList P ops Q l a w → wpQuiet P ops (fun v => v = w) (fun a' => Q .normal a' w) l a
  | [], a, _, h => h
  | o :: l, a, hp, h => by
    simp only [List.all_cons, Bool.and_eq_true] at hp
    obtain ⟨hp1, hp2⟩ := hp
    unfold pureOp at hp1
    simp only [Bool.and_eq_true] at hp1
    have hg : o.guard = none := by simpa using hp1.1
    have hw : Region.wanted o (yielded ops a.tmps) = true := by simp only [Region.wanted, hg]
    have key : ∀ v, execOp a.eval o = pure (.value v) → wpQuiet P ops (fun v => v = w) (fun a' => Q .normal a' w) (o :: l) a := by
      intro v hv
      unfold wpQuiet
      rw [if_pos hw]
      refine ⟨v, fun w' _ => by unfold Oper.quietAt; rw [hv]; exact ⟨rfl, rfl⟩, ?_⟩
      refine pure_of_list l _ hp2 ?_
      unfold wpList at h
      rw [if_pos hw] at h
      rcases h with h | h
      · unfold Oper.wp at h
        rw [hv] at h
        exact h
      · exfalso
        have := h.1.1
        rw [hv] at this
        change noRoomEvent ∈ (#[] : Array _) at this
        simp at this
    have hx : (∃ v, execOp a.eval o = pure (.value v)) ∨ ∃ m, execOp a.eval o = (do pure (Next.value (← (stuck m : Sem Value)))) := by
      have hp3 := hp1.2
      cases ho : o.op <;> rw [ho] at hp3 <;> try cases hp3
      · exact .inl ⟨_, by simp only [execOp, ho]; rfl⟩
      · exact .inl ⟨_, by simp only [execOp, ho]; rfl⟩
      · rename_i t ix
        simp only [execOp, ho]
        unfold Instr.extract
        split
        · split
          · exact .inl ⟨_, by simp; rfl⟩
          · exact .inr ⟨_, rfl⟩
        · exact .inr ⟨_, rfl⟩
    rcases hx with ⟨v, hv⟩ | ⟨m, hm⟩
    · exact key v hv
    · exfalso
      unfold wpList at h
      rw [if_pos hw] at h
      rcases h with h | h
      · unfold Oper.wp at h
        rw [hm] at h
        exact h
      · have := h.1.1
        rw [hm] at this
        change noRoomEvent ∈ (#[] : Array _) at this
        simp at this

theorem wp_region_quiet_mid {id : Nat} {Q : Exit → Act → World → Prop} {a : Act} {w : World} {l : List Oper} (n : Nat) (hm : P.follows .mixedOrders = true) (hB : lexMidB .any l.toArray n = true) (hp : (l.drop (n + 1)).all pureOp = true)
    (hC : C { w with drawn := w.drawn + 1 }) (h : wpQuiet P l.toArray C (fun a' => ∀ w', C w' → wpList P l.toArray Q (l.drop n) a' w') (l.take n) a) : (Code.region id l.toArray true).wp P Q a w := by
  simp only [lexMidB, Bool.and_eq_true, decide_eq_true_eq] at hB
  obtain ⟨⟨⟨⟨hsel, hn⟩, hs⟩, hc⟩, hlex⟩ := hB
  have hn' : n < l.length := by simpa using hn
  have ht : (l.take n).length = n := by rw [List.length_take]; omega
  obtain ⟨g, hg⟩ : ∃ g, l.toArray.size - n = g + 1 := ⟨l.toArray.size - n - 1, by omega⟩
  have hg1 : l.toArray.size - n - 1 = g := by omega
  rw [hg1] at hlex
  have H := headAny_lexM (C := C) (md := .any) (g := g) hsel hs hc hn (l.take n) 0 (Array.replicate l.toArray.size false) a
    (fun j hj => by rw [ht] at hj; simp [hj]) (by omega)
    ⟨by simp, fun j oj _ hl => (by rw [getD_replicate_false] at hl; cases hl), fun t _ ht => getD_in (by simpa using ht) (getD_replicate_false _ _)⟩ (by rw [ht]; exact hlex) h
  have hdn : l.drop n = l[n] :: l.drop (n + 1) := List.drop_eq_getElem_cons hn'
  have hlen : (l.drop (n + 1)).length = g := by rw [List.length_drop]; simp at hg; omega
  have A := headAny_all (Q := Q) (g := g + 1) (fun s a' w' hw' hL => by
    obtain ⟨hL1, hL2⟩ := hL
    simp only [midB, Bool.and_eq_true, decide_eq_true_eq] at hL1
    have hL3 := hL2 w' hw'
    rw [hdn] at hL3
    refine ⟨(fun h0 => by rw [hL1.1] at h0; cases h0), fun i hi => ?_⟩
    rw [hL1.1] at hi
    obtain rfl : i = n := by simpa using hi
    have h0 : l.toArray[i]? = some l[i] := by simp
    have hw : wpOp P l.toArray Q i (wpList P l.toArray Q (l.drop (i + 1))) a' w' := by unfold wpOp; simp only [h0]; exact hL3
    refine wpOp_mono (fun a2 w2 h2 => ?_) hw
    have h3 := pure_of_list _ a2 hp h2
    have h4 := wpAnyQ_lex (md := .any) hsel (l.drop (i + 1)) (i + 1) (s.setIfInBounds i true) a2 (fun j => by simp [List.getElem?_drop]) (by rw [hlen]; exact hL1.2) h3
    rw [hlen] at h4
    exact wpAny_of_quiet (C := fun v => v = w2) (fun a3 w3 hw3 h5 => by subst hw3; exact h5) _ _ _ _ rfl h4) _ _ _ _ hC H
  rw [ht, show n + (g + 1) = l.toArray.size by omega] at A
  exact wp_region_any hm A
/-- at the class 'w with new blocks, after some draws'. -/
theorem wp_region_quiet_mid_below {id : Nat} {Q : Exit → Act → World → Prop} {a : Act} {w : World} {l : List Oper} (n : Nat) (hm : P.follows .mixedOrders = true) (hB : lexMidB .any l.toArray n = true) (hp : (l.drop (n + 1)).all pureOp = true)
    (h : wpQuiet P l.toArray (fun w' => ∃ p : Regrown, w' = grow (redrawn w p.d) p.os) (fun a' => ∀ w', (∃ p : Regrown, w' = grow (redrawn w p.d) p.os) → wpList P l.toArray Q (l.drop n) a' w') (l.take n) a) :
    (Code.region id l.toArray true).wp P Q a w :=
  wp_region_quiet_mid n hm hB hp ⟨⟨w.drawn + 1, #[]⟩, by rw [grow_empty]; rfl⟩ h
theorem wp_region_quiet_mid_drew {id : Nat} {Q : Exit → Act → World → Prop} {a : Act} {w : World} {l : List Oper} (n : Nat) (hm : P.follows .mixedOrders = true) (hB : lexMidB .any l.toArray n = true) (hp : (l.drop (n + 1)).all pureOp = true)
    (h : wpQuiet P l.toArray (fun w' => ∃ n, w' = w.drewN n) (fun a' => ∀ w', (∃ n, w' = w.drewN n) → wpList P l.toArray Q (l.drop n) a' w') (l.take n) a) : (Code.region id l.toArray true).wp P Q a w :=
  wp_region_quiet_mid n hm hB hp ⟨1, rfl⟩ h
end
end Go.Proofs.YtmejjphliaiamaaGreatDoor
