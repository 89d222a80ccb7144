import Derived.Test.YtobepddifflpdaaDoorQt
import Derived.Deep.RegionHeld3
set_option linter.unusedVariables false
namespace Go.Proofs.YtobepddifflpdaaDoor
open Go Go.RowKit Go.Sort

/-! The same where the first operation is a copy that the tail alone waits for ('p = append(p, f(x))': p is read whenever it may be): it is taken first. -/
section
variable {P : Program} {ops : Array Oper} {md : Region.Mode} {C : World → Prop}

/-- each of the head but number 0 is waited for, by a chain, by number n. -/
def sinkP (md : Region.Mode) (ops : Array Oper) (n : Nat) : Bool :=
  (List.range n).all fun i => decide (i < 1) || (List.range (n + 1)).any fun j => decide (i < j) && Region.waitsFor md ops j i

theorem tail_waitsP {n : Nat} {s : Array Bool} (hs : sinkP md ops n = true) (hc : Region.chainB md ops n = true) (hn : n < ops.size) (inv : HeadInv md ops n s) (h0 : s.getD 0 false = true) :
    ∀ (d i : Nat), n - i = d → i < n → s.getD i true = false → ∀ t, n ≤ t → t ∉ Region.ready md ops s := by
  intro d
  induction d using Nat.strongRecOn with
  | _ d ih =>
    intro i hd hi hun t ht hr
    obtain ⟨_, ot, hot, hall⟩ := mem_ready.1 hr
    have htlt : t < ops.size := (Array.getElem?_eq_some_iff.1 hot).1
    by_cases htn : t = n
    · subst htn
      have h1 := List.all_eq_true.1 hs i (List.mem_range.2 hi)
      rw [Bool.or_eq_true, decide_eq_true_eq] at h1
      rcases h1 with h1 | h1
      · obtain rfl : i = 0 := by omega
        have := getD_both hun
        rw [h0] at this
        cases this
      obtain ⟨j, hj, hj2⟩ := List.any_eq_true.1 h1
      rw [Bool.and_eq_true, decide_eq_true_eq] at hj2
      obtain ⟨oj, hoj, e, he, hb, hon⟩ := Region.waitsFor_spec hj2.2
      have hjle : j ≤ t := by have := List.mem_range.1 hj; omega
      by_cases hjt : j = t
      · subst hjt
        obtain rfl : oj = ot := Option.some.inj (hoj.symm.trans hot)
        have h2 := hall e he hb
        rw [hon, getD_both hun] at h2
        cases h2
      · cases hl : s.getD j false with
        | true =>
          have h2 := inv.closed j oj hoj hl e he hb
          rw [hon, getD_both hun] at h2
          cases h2
        | false => exact ih (t - j) (by omega) j rfl (by omega) (getD_in (by rw [inv.size]; omega) hl) t (Nat.le_refl _) hr
    · have h1 := List.all_eq_true.1 hc t (List.mem_range.2 htlt)
      rw [Bool.or_eq_true, decide_eq_true_eq] at h1
      rcases h1 with h1 | h1
      · omega
      · obtain ⟨o', ho', e, he, hb, hon⟩ := Region.waitsFor_spec h1
        obtain rfl : o' = ot := Option.some.inj (ho'.symm.trans hot)
        have h2 := hall e he hb
        rw [hon, getD_both (inv.tail (t - 1) (by omega) (by omega))] at h2
        cases h2

theorem headAny_firstP {n i : Nat} {o : Oper} {v : Value} {L : Array Bool → Act → Prop} (hi : ops[i]? = some o) (hsel : ∀ (j : Nat) (o : Oper) cs b, ops[j]? = some o → o.op ≠ .select cs b)
    (hs : sinkP md ops n = true) (hc : Region.chainB md ops n = true) (hn : n < ops.size) (hin : i < n) (hend : ∀ s a, L s a → ∀ j ∈ Region.ready md ops s, n ≤ j) :
    ∀ (f : Nat) (s : Array Bool) (a : Act), HeadInv md ops n s → s.getD 0 false = true →
      (∀ j oj, ops[j]? = some oj → j ≠ i → s.getD j true = false → (∀ e ∈ oj.after, Region.binds md e = true → e.on ≠ i) → o.apart ops oj = true) →
      i ∈ Region.ready md ops s → YieldsIn P ops C o v a → headAny P md ops C n L f (s.setIfInBounds i true) (a.put o.dst v) → headAny P md ops C n L (f + 1) s a := by
  intro f
  induction f with
  | zero =>
    intro s a inv h0 _ hr hy H
    refine ⟨(fun e0 => by rw [e0] at hr; cases hr), fun j hj => ?_⟩
    have hjn : j < n := Nat.lt_of_not_le fun hle => tail_waitsP hs hc hn inv h0 _ i rfl hin (mem_ready.1 hr).1 j hle hj
    by_cases e : j = i
    · rw [e]; exact ⟨hin, hy.qOp hi H⟩
    · exact absurd (hend _ _ H j (ready_mono hj e)) (by omega)
  | succ f ih =>
    intro s a inv h0 free hr hy H
    have hun := (mem_ready.1 hr).1
    refine ⟨(fun e0 => by rw [e0] at hr; cases hr), fun j hj => ?_⟩
    have hjn : j < n := Nat.lt_of_not_le fun hle => tail_waitsP hs hc hn inv h0 _ i rfl hin hun j hle hj
    by_cases e : j = i
    · rw [e]; exact ⟨hin, hy.qOp hi H⟩
    · obtain ⟨hjun, oj, hoj, hall⟩ := mem_ready.1 hj
      have later := (H.2 j (ready_mono hj e)).2
      have nowait : ∀ x ∈ oj.after, Region.binds md x = true → x.on ≠ i := fun x hx hb h1 => by
        have h2 := hall x hx hb
        rw [h1, getD_both hun] at h2
        cases h2
      refine ⟨hjn, qOp_mono (fun a' h3 => ih (s.setIfInBounds j true) a' (inv.set hj hjn) (getD_set_true h0) (fun k ok hk hki hkun hno => free k ok hk hki ?_ hno) (ready_mono hr (Ne.symm e)) h3.1 ?_)
        (qOp_put hoj (free j oj hoj e hjun nowait) (fun cs b => hsel i o cs b hi) (fun cs b => hsel j oj cs b hoj) hy later)⟩
      · by_cases hjk : j = k
        · rw [← hjk]; exact hjun
        · rwa [getD_set_ne true hjk] at hkun
      · rw [Array.setIfInBounds_comm _ _ e]
        exact h3.2

theorem headAny_lexP {n g : Nat} {Lq : Act → Prop} (hsel : Region.noSelect ops = true) (hs : sinkP md ops n = true) (hc : Region.chainB md ops n = true) (hn : n < ops.size) :
    ∀ (l : List Oper) (k : Nat) (s : Array Bool) (a : Act), (∀ j, j < l.length → l[j]? = ops[k + j]?) → k + l.length = n → HeadInv md ops n s → s.getD 0 false = true → Region.lexHead md ops g l.length k s = true →
      wpQuiet P ops C Lq l a → headAny P md ops C n (fun s' a' => Region.seqB md ops g n s' = true ∧ Lq a') l.length s a := by
  intro l
  induction l with
  | nil =>
    intro k s a _ hk _ _ hB h
    obtain rfl : k = n := hk
    exact ⟨hB, h⟩
  | cons o l ih =>
    intro k s a hl hk inv h0' hB h
    have h0 : ops[k]? = some o := (hl 0 (by simp)).symm
    rw [List.length_cons] at hk hB
    simp only [Region.lexHead, Bool.and_eq_true] at hB
    obtain ⟨⟨hr, hf⟩, hB⟩ := hB
    have hr : k ∈ Region.ready md ops s := by simpa using hr
    have h1 : qOp P ops C k (wpQuiet P ops C Lq l) a := by unfold qOp; rw [h0]; exact h
    obtain ⟨v, hy, hK⟩ := yieldsIn_of_qOp h0 h1
    exact headAny_firstP h0 (Region.noSelect_spec hsel) hs hc hn (by omega) (fun s' a' hL => seqB_ready hL.1) l.length s a inv h0' (Region.free_spec h0 hf) hr hy
      (ih (k + 1) _ _ (fun j hj => by have h2 := hl (j + 1) (by simp; omega); rwa [Nat.add_assoc, Nat.add_comm 1 j]) (by omega) (inv.set hr (by omega)) (getD_set_true h0') hB hK)

def lexTailP (md : Region.Mode) (ops : Array Oper) (n : Nat) : Bool :=
  Region.noSelect ops && decide (1 ≤ n) && decide (n < ops.size) && sinkP md ops n && Region.chainB md ops n && (Region.ready md ops (Array.replicate ops.size false)).contains 0 && Region.free md ops (Array.replicate ops.size false) 0 &&
    Region.lexHead md ops (ops.size - n) (n - 1) 1 ((Array.replicate ops.size false).setIfInBounds 0 true)

theorem wp_region_copy_tail {id : Nat} {Q : Exit → Act → World → Prop} {a : Act} {w : World} {o : Oper} {v : Value} {l : List Oper} (n : Nat) (hm : P.follows .mixedOrders = true) (hB : lexTailP .any (o :: l).toArray n = true)
    (hC : C { w with drawn := w.drawn + 1 }) (hy : Yields P (o :: l).toArray o v a)
    (h : wpQuiet P (o :: l).toArray C (fun a' => ∀ w', C w' → wpList P (o :: l).toArray (NoPanic Q) ((o :: l).drop n) a' w') (l.take (n - 1)) (a.put o.dst v)) : (Code.region id (o :: l).toArray true).wp P Q a w := by
  simp only [lexTailP, Bool.and_eq_true, decide_eq_true_eq] at hB
  obtain ⟨⟨⟨⟨⟨⟨⟨hsel, h1n⟩, hn⟩, hs⟩, hc⟩, hr0⟩, hf0⟩, hlex⟩ := hB
  have hn' : n < l.length + 1 := by simpa using hn
  have ht : (l.take (n - 1)).length = n - 1 := by rw [List.length_take]; omega
  have hd : ((o :: l).drop n).length = (o :: l).toArray.size - n := by simp
  have hr0' : 0 ∈ Region.ready .any (o :: l).toArray (Array.replicate (o :: l).toArray.size false) := by simpa using hr0
  have inv0 : HeadInv .any (o :: l).toArray n (Array.replicate (o :: l).toArray.size false) :=
    ⟨by simp, fun j oj _ hl => (by rw [getD_replicate_false] at hl; cases hl), fun t _ ht => getD_in (by simpa using ht) (getD_replicate_false _ _)⟩
  have H := headAny_lexP (C := C) (md := .any) (g := (o :: l).toArray.size - n) hsel hs hc hn (l.take (n - 1)) 1 ((Array.replicate (o :: l).toArray.size false).setIfInBounds 0 true) (a.put o.dst v)
    (fun j hj => by rw [ht] at hj; simp [hj, Nat.add_comm 1 j]) (by omega) (inv0.set hr0' (by omega)) (by simp) (by rw [ht]; exact hlex) h
  have A := headAny_all (Q := NoPanic Q) (g := (o :: l).toArray.size - n) (fun s a' w' hw' hL => by
    have := wpAny_of_seq (md := .any) (Q' := NoPanic Q) ((o :: l).drop n) n s a' w' (fun j => by simp [List.getElem?_drop]) (by rw [hd]; exact hL.1) (hL.2 w' hw')
    rwa [hd] at this) _ _ _ _ hC H
  rw [ht] at A
  refine wp_region_noPanic (wp_region_any hm ?_)
  have T := wpAny_take (Q := NoPanic Q) (i := 0) rfl hsel hf0 hr0 (fun _ _ _ h => h) hy A
  have hsz : n - 1 + ((o :: l).toArray.size - n) + 1 = (o :: l).toArray.size := by simp; omega
  rw [hsz] at T
  exact T

theorem wp_region_copy_tail_below {id : Nat} {Q : Exit → Act → World → Prop} {a : Act} {w : World} {o : Oper} {v : Value} {l : List Oper} (n : Nat) (hm : P.follows .mixedOrders = true) (hB : lexTailP .any (o :: l).toArray n = true)
    (hy : Yields P (o :: l).toArray o v a)
    (h : wpQuiet P (o :: l).toArray (fun w' => ∃ p : Regrown, w' = grow (redrawn w p.d) p.os) (fun a' => ∀ w', (∃ p : Regrown, w' = grow (redrawn w p.d) p.os) → wpList P (o :: l).toArray (NoPanic Q) ((o :: l).drop n) a' w') (l.take (n - 1)) (a.put o.dst v)) :
    (Code.region id (o :: l).toArray true).wp P Q a w :=
  wp_region_copy_tail n hm hB ⟨⟨w.drawn + 1, #[]⟩, by rw [grow_empty]; rfl⟩ hy h
end
end Go.Proofs.YtobepddifflpdaaDoor
