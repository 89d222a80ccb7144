import Derived.StillTail
import Derived.Below
import Derived.Test.YtmejjphliaiamaaGreatDoorShaT
import Derived.Test.YtmejjphliaiamaaGreatDoorHxP
import Derived.Deep.WholeRow
import Derived.Lib.QuietBelow
import Derived.BigQuiet
import Derived.Test.YtmejjphliaiamaaGreatDoorBu
import Derived.Lib.QuoteBits
import Derived.Test.YtmejjphliaiamaaGreatDoorSl
set_option linter.unusedVariables false
set_option linter.unusedSimpArgs false
namespace Go.Proofs.YtmejjphliaiamaaGreatDoor
open Go Go.RowKit Go.Lib Go.Sort

/-! A region that draws its order, whose head's operations may read, lay new blocks and call what lays new blocks: of each operation's value a FACT is kept (that stands while only new blocks come), proved once for each operation, whatever the order; behind the head a tail that comes in one order alone. -/
section
variable {P : Program} {ops : Array Oper} {md : Region.Mode}

def factUpon (P : Program) (w : World) (R : Value → World → Prop) : Result Next → Prop
  | .ok (.value u) w' => Below w.heap.size w w' ∧ R u w'
  | .ok (.enter f args) w' => w' = w ∧ Calls P f args w (fun e w'' => ∃ v, e = .returned v ∧ Below w.heap.size w w'' ∧ R v w'')
  | _ => False

/-- no operation of the head yields into this temporary. -/
def Region.dstFree (ops : Array Oper) (n t : Nat) : Bool := (List.range n).all fun i => match ops[i]? with | some o => o.dst != some t | none => true
def Region.waitsOn (md : Region.Mode) (o : Oper) (j : Nat) : Bool := o.after.any fun e => Region.binds md e && e.on == j

/-- the bool that an operation has yielded, seen through its temporary. -/
def evY (ops : Array Oper) (ev : Operand → Value) (g : Nat) : Option Bool :=
  match (ops[g]?).bind (·.dst) with
  | some d => (match ev (.tmp d) with | .bool b => some b | _ => none)
  | none => none
theorem evY_eq (ops : Array Oper) (a : Act) : yielded ops a.tmps = evY ops a.eval := by
  funext g
  unfold yielded evY
  cases (ops[g]?).bind (·.dst) with
  | none => rfl
  | some d =>
    show (match a.tmps[d]? with | some (.bool b) => some b | _ => none) = (match a.tmps.getD d undef with | .bool b => some b | _ => none)
    rw [Array.getD_eq_getD_getElem?]
    cases a.tmps[d]? with
    | none => rfl
    | some v => cases v <;> rfl
structure FInv (ops : Array Oper) (n : Nat) (w0 : World) (a0 : Act) (F : Nat → Value → World → Prop) (listed : Array Bool) (a : Act) (w : World) : Prop where
  below : Below w0.heap.size w0 w
  defers : a.defers = a0.defers
  size : a.tmps.size = a0.tmps.size
  same : ∀ t : Nat, Region.dstFree ops n t = true → a.tmps.getD t undef = a0.tmps.getD t undef
  facts : ∀ i o d, i < n → ops[i]? = some o → listed.getD i false = true → o.dst = some d → F i (a.tmps.getD d undef) w

def FStep (P : Program) (md : Region.Mode) (ops : Array Oper) (n : Nat) (w0 : World) (a0 : Act) (F : Nat → Value → World → Prop) (i : Nat) (o : Oper) : Prop :=
  ∀ (ev : Operand → Value) (w : World), Below w0.heap.size w0 w → (∀ v, ev (.const v) = v) → (∀ g, ev (.global g) = .pointer (some ⟨g, 0, none⟩)) → (∀ f, ev (.func f) = .func (.func f) #[] #[]) →
    (∀ t, Region.dstFree ops n t = true → ev (.tmp t) = a0.tmps.getD t undef) →
    (∀ j oj d, j < n → ops[j]? = some oj → Region.waitsOn md o j = true → oj.dst = some d → F j (ev (.tmp d)) w) → if Region.wanted o (evY ops ev) = true then factUpon P w (F i) ((execOp ev o).run P w) else F i undef w
def FAll (P : Program) (md : Region.Mode) (ops : Array Oper) (n : Nat) (w0 : World) (a0 : Act) (F : Nat → Value → World → Prop) : Nat → List Oper → Prop
  | _, [] => True
  | i, o :: l => FStep P md ops n w0 a0 F i o ∧ FAll P md ops n w0 a0 F (i + 1) l
theorem FAll.at {n : Nat} {w0 : World} {a0 : Act} {F : Nat → Value → World → Prop} : ∀ (l : List Oper) (k : Nat), FAll P md ops n w0 a0 F k l → ∀ i o, l[i]? = some o → FStep P md ops n w0 a0 F (k + i) o
  | [], _, _, i, o, h => by simp at h
  | x :: l, k, h, 0, o, ho => by
    have : x = o := by simpa using ho
    subst this
    exact h.1
  | x :: l, k, h, i + 1, o, ho => by
    have := FAll.at l (k + 1) h.2 i o (by simpa using ho)
    rwa [Nat.add_assoc, Nat.add_comm 1 i] at this

def Region.headOk (md : Region.Mode) (ops : Array Oper) (N n i : Nat) : Bool :=
  match ops[i]? with
  | none => false
  | some o => (match o.dst with | some d => decide (d < N) | none => false) && (o.after.all fun e => !Region.binds md e || decide (e.on < i)) &&
    ((List.range n).all fun j => i == j || match ops[j]? with | some oj => oj.dst != o.dst | none => true)
def Region.factsB (md : Region.Mode) (ops : Array Oper) (N n : Nat) : Bool :=
  ((List.range n).all fun i => Region.headOk md ops N n i) && decide (n ≤ ops.size) &&
    (decide (n = ops.size) || (Region.sinkB md ops n && Region.chainB md ops n)) &&
    Region.seqB md ops (ops.size - n) n ((List.range ops.size).map fun i => decide (i < n)).toArray

def unl (listed : Array Bool) (n : Nat) : Nat := (List.range n).countP fun i => !listed.getD i true
theorem countP_less (p q : Nat → Bool) (j : Nat) : ∀ n, j < n → p j = true → q j = false → (∀ i, i ≠ j → p i = q i) → (List.range n).countP p = (List.range n).countP q + 1 := by
  intro n
  induction n with
  | zero => intro h; omega
  | succ n ih =>
    intro hj hp hq hh
    rw [List.range_succ, List.countP_append, List.countP_append, List.countP_singleton, List.countP_singleton]
    by_cases e : j = n
    · subst e
      rw [hp, hq]
      have : ∀ m, m ≤ j → (List.range m).countP p = (List.range m).countP q := by
        intro m hm
        induction m with
        | zero => rfl
        | succ m im => rw [List.range_succ, List.countP_append, List.countP_append, List.countP_singleton, List.countP_singleton, im (by omega), hh m (by omega)]
      rw [this j (Nat.le_refl _)]
      simp
    · rw [ih (by omega) hp hq hh, hh n (Ne.symm e)]
      omega
theorem unl_set {listed : Array Bool} {n j : Nat} (hj : j < n) (hs : j < listed.size) (hu : listed.getD j true = false) : unl listed n = unl (listed.setIfInBounds j true) n + 1 := by
  refine countP_less _ _ j n hj (by rw [hu]; rfl) (by simp [hs]) (fun i hi => ?_)
  rw [getD_set_ne true (Ne.symm hi)]
theorem unl_zero {listed : Array Bool} : ∀ {n : Nat}, unl listed n = 0 → ∀ i, i < n → listed.getD i true = true := by
  intro n h i hi
  have := (List.countP_eq_zero.1 h) i (List.mem_range.2 hi)
  simpa using this
theorem unl_pos {listed : Array Bool} : ∀ {n f : Nat}, unl listed n = f + 1 → ∃ i, i < n ∧ listed.getD i true = false ∧ ∀ j, j < i → listed.getD j true = true := by
  intro n f h
  have h1 : ∃ i, i < n ∧ listed.getD i true = false := by
    apply Classical.byContradiction
    intro hc
    have : unl listed n = 0 := List.countP_eq_zero.2 fun i hi => by
      have hi := List.mem_range.1 hi
      cases hx : listed.getD i true with
      | true => simp
      | false => exact absurd ⟨i, hi, hx⟩ hc
    omega
  obtain ⟨i, hi, hx⟩ := h1
  have : ∀ i, i < n → listed.getD i true = false → ∃ i, i < n ∧ listed.getD i true = false ∧ ∀ j, j < i → listed.getD j true = true := by
    intro i
    induction i using Nat.strongRecOn with
    | _ i ih =>
      intro hi hx
      by_cases hj : ∃ j, j < i ∧ listed.getD j true = false
      · obtain ⟨j, h1, h2⟩ := hj
        exact ih j h1 (by omega) h2
      · refine ⟨i, hi, hx, fun j h1 => ?_⟩
        cases h2 : listed.getD j true with
        | true => rfl
        | false => exact absurd ⟨j, h1, h2⟩ hj
  exact this i hi hx

theorem Oper.wp_of_fact {o : Oper} {a : Act} {w : World} {K : Act → World → Prop} {Q : Exit → Act → World → Prop} {R : Value → World → Prop}
    (h : factUpon P w R ((execOp a.eval o).run P w)) (hK : ∀ v w', Below w.heap.size w w' → R v w' → K (a.put o.dst v) w') : o.wp P a w K Q := by
  unfold Oper.wp
  generalize (execOp a.eval o).run P w = r at *
  cases r with
  | ok n w' =>
    cases n with
    | value u => exact hK _ _ h.1 h.2
    | enter f args =>
      have h1 : w' = w := h.1
      have hc : Calls P f args w (fun e w'' => ∃ v, e = .returned v ∧ Below w.heap.size w w'' ∧ R v w'') := h.2
      rw [h1]
      exact hc.mono fun e w'' ⟨v, he, hb, hr⟩ => by subst he; exact hK _ _ hb hr
    | _ => exact h.elim
  | halt x w' => exact h.elim

theorem put_getD {a : Act} {d : Nat} {v : Value} (hd : d < a.tmps.size) (t : Nat) : (a.put (some d) v).tmps.getD t undef = if t = d then v else a.tmps.getD t undef := by
  unfold Act.put
  by_cases e : t = d
  · subst e; simp [hd]
  · simp only [if_neg e, Array.getD_eq_getD_getElem?, Array.getElem?_setIfInBounds_ne (Ne.symm e)]

theorem headF {n g N : Nat} {Q : Exit → Act → World → Prop} {w0 : World} {a0 : Act} {F : Nat → Value → World → Prop} (hok : ∀ i, i < n → Region.headOk md ops N n i = true) (hn : n ≤ ops.size) (hg : ops.size - n = g)
    (htl : n = ops.size ∨ (Region.sinkB md ops n = true ∧ Region.chainB md ops n = true)) (ha0 : a0.tmps.size = N)
    (hst : ∀ i v w w', F i v w → Below w.heap.size w w' → F i v w') (hstep : ∀ i o, i < n → ops[i]? = some o → FStep P md ops n w0 a0 F i o)
    (hend : ∀ listed a w, listed.size = ops.size → (∀ i, i < n → listed.getD i true = true) → (∀ t, n ≤ t → t < ops.size → listed.getD t true = false) → FInv ops n w0 a0 F listed a w → wpAny P md ops Q g listed a w) :
    ∀ (f : Nat) (listed : Array Bool) (a : Act) (w : World), HeadInv md ops n listed → unl listed n = f → FInv ops n w0 a0 F listed a w → wpAny P md ops Q (f + g) listed a w := by
  intro f
  induction f with
  | zero =>
    intro listed a w inv hu hI
    rw [Nat.zero_add]
    exact hend listed a w inv.size (unl_zero hu) inv.tail hI
  | succ f ih =>
    intro listed a w inv hu hI
    rw [Nat.add_right_comm]
    obtain ⟨i0, hi0, hx0, hlow⟩ := unl_pos hu
    have hr0 : i0 ∈ Region.ready md ops listed := by
      have h1 := hok i0 hi0
      unfold Region.headOk at h1
      split at h1
      · cases h1
      · rename_i o ho
        simp only [Bool.and_eq_true] at h1
        refine mem_ready.2 ⟨hx0, o, ho, fun e he hb => ?_⟩
        have h2 := (Array.all_eq_true_iff_forall_mem.1 h1.1.2) e he
        simp only [hb, Bool.not_true, Bool.false_or, decide_eq_true_eq] at h2
        have h3 := hlow e.on h2
        have h4 : e.on < listed.size := by rw [inv.size]; omega
        simp [h4] at h3 ⊢
        exact h3
    refine ⟨fun h0 => (by rw [h0] at hr0; cases hr0), fun j hj => ?_⟩
    obtain ⟨hjun, o, ho, hall⟩ := mem_ready.1 hj
    have hjsz : j < ops.size := (Array.getElem?_eq_some_iff.1 ho).1
    have hjn : j < n := by
      rcases htl with h | ⟨h1, h2⟩
      · omega
      · rcases Nat.lt_or_ge n ops.size with h3 | h3
        · exact Nat.lt_of_not_le fun hle => tail_waits h1 h2 h3 inv _ i0 rfl hi0 hx0 j hle hj
        · omega
    have h1 := hok j hjn
    unfold Region.headOk at h1
    rw [ho] at h1
    simp only [Bool.and_eq_true] at h1
    obtain ⟨⟨hdst, _⟩, hdis⟩ := h1
    cases hd : o.dst with
    | none => rw [hd] at hdst; cases hdst
    | some d =>
      rw [hd] at hdst hdis
      have hdN : d < N := by simpa using hdst
      have hds : d < a.tmps.size := by rw [hI.size, ha0]; exact hdN
      have hS := hstep j o hjn ho a.eval w hI.below (fun v => rfl) (fun g => rfl) (fun f => rfl) (fun t ht => hI.same t ht) (fun k ok dk hk hok' hwk hdk => by
        refine hI.facts k ok dk hk hok' ?_ hdk
        obtain ⟨e, he, hb⟩ := Array.any_eq_true'.1 hwk
        simp only [Bool.and_eq_true, beq_iff_eq] at hb
        have := hall e he hb.1
        rwa [hb.2] at this)
      have hK : ∀ v w', Below w.heap.size w w' → F j v w' → wpAny P md ops Q (f + g) (listed.setIfInBounds j true) (a.put o.dst v) w' := by
        intro v w' hb hr
        rw [hd]
        refine ih _ _ _ (inv.set hj hjn) ?_ ⟨hI.below.trans (hb.mono hI.below.size), ?_, ?_, fun t ht => ?_, fun k ok dk hk hok' hl hdk => ?_⟩
        · have := unl_set (n := n) hjn (by rw [inv.size]; exact hjsz) hjun
          omega
        · exact hI.defers
        · show (a.tmps.setIfInBounds d v).size = _
          rw [Array.size_setIfInBounds]; exact hI.size
        · rw [put_getD hds, if_neg]
          · exact hI.same t ht
          · intro e
            have h2 := (List.all_eq_true.1 ht) j (List.mem_range.2 hjn)
            rw [ho] at h2
            simp [hd, e] at h2
        · rw [put_getD hds]
          by_cases e : k = j
          · subst e
            have : o = ok := Option.some.inj (ho.symm.trans hok')
            subst this
            rw [hd] at hdk
            rw [if_pos (Option.some.inj hdk).symm]
            exact hr
          · rw [if_neg]
            · rw [getD_set_ne false (Ne.symm e)] at hl
              exact hst _ _ _ _ (hI.facts k ok dk hk hok' hl hdk) hb
            · intro e2
              have h2 := (List.all_eq_true.1 hdis) k (List.mem_range.2 hk)
              rw [hok'] at h2
              simp [Ne.symm e, hdk, e2] at h2
      unfold wpOp
      simp only [ho]
      rw [evY_eq]
      by_cases hw : Region.wanted o (evY ops a.eval) = true
      · rw [if_pos hw] at hS ⊢
        exact .inl (Oper.wp_of_fact (R := F j) hS hK)
      · rw [if_neg hw] at hS ⊢
        exact hK undef w (Below.refl _ _) hS

theorem wp_region_facts {id : Nat} {Q : Exit → Act → World → Prop} {a : Act} {w : World} {l : List Oper} (n N : Nat) (F : Nat → Value → World → Prop) (hm : P.follows .mixedOrders = true)
    (hB : Region.factsB .any l.toArray N n = true) (ha : a.tmps.size = N) (hst : ∀ i v w w', F i v w → Below w.heap.size w w' → F i v w')
    (hstep : FAll P .any l.toArray n w a F 0 (l.take n))
    (htail : ∀ a' w', FInv l.toArray n w a F ((List.range l.length).map fun i => decide (i < n)).toArray a' w' → wpList P l.toArray Q (l.drop n) a' w') : (Code.region id l.toArray true).wp P Q a w := by
  simp only [Region.factsB, Bool.and_eq_true, decide_eq_true_eq, Bool.or_eq_true] at hB
  obtain ⟨⟨⟨hok, hn⟩, htl⟩, hseq⟩ := hB
  have hdl : (l.drop n).length = l.toArray.size - n := by simp
  have hI : FInv l.toArray n w a F (Array.replicate l.toArray.size false) a { w with drawn := w.drawn + 1 } :=
    ⟨⟨rfl, rfl, rfl, Nat.le_refl _, fun _ _ => rfl⟩, rfl, rfl, fun _ _ => rfl, fun i o d _ _ hl => (by rw [getD_replicate_false] at hl; cases hl)⟩
  have A := headF (P := P) (md := .any) (ops := l.toArray) (Q := Q) (g := l.toArray.size - n) (N := N) (fun i hi => (List.all_eq_true.1 hok) i (List.mem_range.2 hi)) hn rfl htl ha hst
    (fun i o hi ho => by
      have := FAll.at _ _ hstep i o (by rw [List.getElem?_take, if_pos hi]; simpa using ho)
      rwa [Nat.zero_add] at this)
    (fun listed a' w' hsz h1 h2 hI' => by
      have he : listed = ((List.range l.toArray.size).map fun i => decide (i < n)).toArray := by
        apply Array.ext_getElem?
        intro k
        rcases Nat.lt_or_ge k l.toArray.size with hk | hk
        · have hk' : k < listed.size := by omega
          rw [Array.getElem?_eq_getElem hk']
          have hk2 : k < l.length := by simpa using hk
          simp only [List.getElem?_toArray, List.getElem?_map, List.getElem?_range hk, Option.map_some]
          congr 1
          rcases Nat.lt_or_ge k n with h3 | h3
          · have := h1 k h3
            simp [hk'] at this
            rw [this]; simp [h3]
          · have := h2 k h3 hk
            simp [hk'] at this
            rw [this]; simp [h3]
        · rw [Array.getElem?_eq_none (by omega), Array.getElem?_eq_none (by simpa using hk)]
      subst he
      have := wpAny_of_seq (md := .any) (Q' := Q) (l.drop n) n _ a' w' (fun j => by simp [List.getElem?_drop]) (by rw [hdl]; exact hseq) (htail a' w' (by simpa using hI'))
      rwa [hdl] at this)
    n (Array.replicate l.toArray.size false) a { w with drawn := w.drawn + 1 }
    ⟨by simp, fun j oj _ hl => (by rw [getD_replicate_false] at hl; cases hl), fun t _ ht => getD_in (by simpa using ht) (getD_replicate_false _ _)⟩
    (by
      unfold unl
      have : ∀ m, m ≤ n → (List.range m).countP (fun i => !(Array.replicate l.toArray.size false).getD i true) = m := by
        intro m hm
        induction m with
        | zero => rfl
        | succ m im =>
          rw [List.range_succ, List.countP_append, im (by omega), List.countP_singleton, getD_in (by simpa using (show m < l.toArray.size by omega)) (getD_replicate_false _ _)]
          rfl
      exact this n (Nat.le_refl _)) hI
  have hsum : n + (l.toArray.size - n) = l.toArray.size := by omega
  rw [hsum] at A
  exact wp_region_any hm A

theorem act_list {a : Act} (N : Nat) (L : List Nat) (hL : L = List.range N) (h : a.tmps.size = N) : a = ⟨(L.map fun t => a.tmps.getD t undef).toArray, a.defers⟩ := by
  subst hL
  obtain ⟨t, d⟩ := a
  congr 1
  apply Array.ext_getElem?
  intro k
  have h : t.size = N := h
  rcases Nat.lt_or_ge k N with hk | hk
  · simp [List.getElem?_range hk, show k < t.size by omega]
  · rw [Array.getElem?_eq_none (by omega), Array.getElem?_eq_none (by simpa using hk)]
end

theorem strCells_num2 (x : Int) : strCells (numB x 2) = [.int .u8 (x / 256 % 256), .int .u8 (x % 256)] := by
  simp [numB, numTop, strCells_append, strCells_one]
  rfl
theorem strCells_length (s : ByteArray) : (strCells s).length = s.size := by
  unfold strCells
  rw [List.length_map, Array.length_toList]
  rfl
theorem own_new (cs : Array Value) (s : ByteArray) (k : Nat) (w : World) (hc : cs.toList = strCells s) (hk : s.size = k) (hs : k ≤ maxLen) : OwnB (w.alloc (.cells cs 5)) w.heap.size (.slice (some ⟨w.heap.size, 0, none⟩) k k) s := by
  subst hk
  have h1 : cs.size = s.size := by rw [← Array.length_toList, hc, strCells_length]
  refine ⟨by rw [strCells_length, Nat.mul_one], .inr ⟨w.heap.size, s.size, cs, rfl, Nat.le_refl _, heap_alloc_last _ _, Nat.le_refl _, hs, by rw [h1, Nat.mul_one], ?_⟩⟩
  rw [hc, Nat.mul_one, ← strCells_length s, List.take_length]

set_option maxRecDepth 100000 in
set_option maxHeartbeats 1000000 in
theorem two_any (n : Int) (hn : 0 ≤ n ∧ n < 65536) (w : World) : Calls Tryz.prog 229 #[.int .i64 n] w fun e w' => e = .returned (.string (numB n 2)) ∧ Below w.heap.size w w' := by
  go_enter Tryz.func229, Tryz.ntmps229
  go_wp2_with fail
  rw [run_str (own_new _ (numB n 2) 2 w (by rw [strCells_num2, show n / 256 % 256 = n / 256 by omega]) (shanum_size _ _) (by decide))]
  go_wp2_with fail
  go_ret
  exact ⟨rfl, (Below.refl _ _).alloc (Nat.le_refl _) _⟩

set_option maxRecDepth 100000 in
set_option maxHeartbeats 1000000 in
theorem one_any (n : Int) (hn : 0 ≤ n ∧ n < 256) (w : World) : Calls Tryz.prog 230 #[.int .i64 n] w fun e w' => e = .returned (.string (oneB n)) ∧ Below w.heap.size w w' := by
  go_enter Tryz.func230, Tryz.ntmps230
  go_wp2_with fail
  rw [run_str (own_new _ (oneB n) 1 w (by rw [strCells_one, show n % 256 = n by omega]) (oneB_size _) (by decide))]
  go_wp2_with fail
  go_ret
  exact ⟨rfl, (Below.refl _ _).alloc (Nat.le_refl _) _⟩

set_option maxRecDepth 100000 in
set_option maxHeartbeats 1000000 in
theorem onumber_any (x : Int) (n : Nat) (hx : 0 ≤ x ∧ x < 18446744073709551616) (hn : n ≤ 8) (w : World) : Calls Tryz.prog 67 #[.int .u64 x, .int .i64 n] w fun e w' => e = .returned (.string (numB x n)) ∧ Below w.heap.size w w' := by
  go_enter Tryz.func67, Tryz.ntmps67
  go_wp2_with fail
  refine (number_any w.heap.size _ ⟨#[]⟩ x n w (ownB_nil _ _) hx hn (Nat.le_refl _) (by decide)).mono ?_
  rintro e w2 ⟨v2, rfl, ho, hk⟩
  rw [show (⟨#[]⟩ : ByteArray) ++ numB x n = numB x n from ByteArray.empty_append] at ho
  have HO := Lib.hid ho
  have HB := Lib.hid (hk.toBelow (Nat.le_refl _))
  clear ho hk
  go_wp2_with fail
  rw [run_str HO.out]
  go_wp2_with fail
  go_ret
  exact ⟨rfl, HB.out⟩

/-! the facts that a region's values bear here: a known value, or bytes of one's own -/
inductive Ft where
  | v (x : Value)
  | own (s : ByteArray)
  | sl (n : Nat)
def Ft.holds (B : Nat) : Ft → Value → World → Prop
  | .v x, u, _ => u = x
  | .own s, u, w => OwnB w B u s
  | .sl n, u, _ => ∃ ad c, u = .slice ad n c
def FtF (B : Nat) (l : List Ft) : Nat → Value → World → Prop := fun i u w => ((l[i]?).getD (.v undef)).holds B u w
theorem FtF.stable (B : Nat) (l : List Ft) : ∀ i v w w', FtF B l i v w → Below w.heap.size w w' → FtF B l i v w' := by
  intro i v w w' h hb
  unfold FtF at *
  generalize (l[i]?).getD (.v undef) = f at *
  cases f with
  | v x => exact h
  | own s => exact OwnB.below h hb
  | sl n => exact h
section
variable {P : Program} {md : Region.Mode} {ops : Array Oper} {n : Nat} {w0 : World} {a0 : Act} {F : Nat → Value → World → Prop} {i : Nat} {o : Oper}
theorem wanted_of {y : Nat → Option Bool} (g : Nat) (b : Bool) (hg : o.guard = some (g, b)) (hy : y g = some b) : Region.wanted o y = true := by
  unfold Region.wanted
  rw [hg]
  simp [hy]
theorem unwanted_of {y : Nat → Option Bool} (g : Nat) (b : Bool) (hg : o.guard = some (g, b)) (hy : y g = some (!b)) : Region.wanted o y = false := by
  unfold Region.wanted
  rw [hg]
  cases b <;> simp [hy]
theorem evY_of {ev : Operand → Value} {g : Nat} {d : Nat} {b : Bool} (hd : (ops[g]?).bind (·.dst) = some d) (hv : ev (.tmp d) = .bool b) : evY ops ev g = some b := by
  unfold evY
  rw [hd]
  simp only [hv]
theorem fstep_not (hw : ∀ (ev : Operand → Value) (w : World), (∀ j oj d, j < n → ops[j]? = some oj → Region.waitsOn md o j = true → oj.dst = some d → F j (ev (.tmp d)) w) → Region.wanted o (evY ops ev) = false) (h : ∀ w, F i undef w) : FStep P md ops n w0 a0 F i o := by
  intro ev w hb hc hg hf hs hp
  rw [if_neg (by rw [hw ev w hp]; decide)]
  exact h w
/-- whatever reads alone: its run is shown as one equation. -/
theorem fstep_any (hw : ∀ (ev : Operand → Value) (w : World), (∀ j oj d, j < n → ops[j]? = some oj → Region.waitsOn md o j = true → oj.dst = some d → F j (ev (.tmp d)) w) → Region.wanted o (evY ops ev) = true) (h : ∀ (ev : Operand → Value) (w : World), Below w0.heap.size w0 w → (∀ v, ev (.const v) = v) → (∀ t, Region.dstFree ops n t = true → ev (.tmp t) = a0.tmps.getD t undef) →
    (∀ j oj d, j < n → ops[j]? = some oj → Region.waitsOn md o j = true → oj.dst = some d → F j (ev (.tmp d)) w) → ∃ u, (execOp ev o).run P w = .ok (.value u) w ∧ F i u w) : FStep P md ops n w0 a0 F i o := by
  intro ev w hb hc hg hf hs hp
  rw [if_pos (hw ev w hp)]
  obtain ⟨u, hu, hF⟩ := h ev w hb hc hs hp
  rw [hu]
  exact ⟨Below.refl _ _, hF⟩
theorem fstep_move (x : Operand) (ho : o.op = .move x) (hw : ∀ (ev : Operand → Value) (w : World), (∀ j oj d, j < n → ops[j]? = some oj → Region.waitsOn md o j = true → oj.dst = some d → F j (ev (.tmp d)) w) → Region.wanted o (evY ops ev) = true) (h : ∀ (ev : Operand → Value) (w : World), (∀ v, ev (.const v) = v) → (∀ t, Region.dstFree ops n t = true → ev (.tmp t) = a0.tmps.getD t undef) →
    (∀ j oj d, j < n → ops[j]? = some oj → Region.waitsOn md o j = true → oj.dst = some d → F j (ev (.tmp d)) w) → F i (ev x) w) : FStep P md ops n w0 a0 F i o := by
  intro ev w hb hc hg hf hs hp
  rw [if_pos (hw ev w hp)]
  have : (execOp ev o).run P w = .ok (.value (ev x)) w := by unfold execOp; rw [ho]; rfl
  rw [this]
  exact ⟨Below.refl _ _, h ev w hc hs hp⟩
theorem fstep_conv (s t : TypeId) (x : Operand) (ho : o.op = .convert s t x) (hw : ∀ (ev : Operand → Value) (w : World), (∀ j oj d, j < n → ops[j]? = some oj → Region.waitsOn md o j = true → oj.dst = some d → F j (ev (.tmp d)) w) → Region.wanted o (evY ops ev) = true) (h : ∀ (ev : Operand → Value) (w : World), Below w0.heap.size w0 w → (∀ v, ev (.const v) = v) → (∀ t, Region.dstFree ops n t = true → ev (.tmp t) = a0.tmps.getD t undef) →
    (∀ j oj d, j < n → ops[j]? = some oj → Region.waitsOn md o j = true → oj.dst = some d → F j (ev (.tmp d)) w) → ∃ u, (convert s t (ev x)).run P w = .ok u w ∧ F i u w) : FStep P md ops n w0 a0 F i o := by
  intro ev w hb hc hg hf hs hp
  rw [if_pos (hw ev w hp)]
  obtain ⟨u, hu, hF⟩ := h ev w hb hc hs hp
  have : (execOp ev o).run P w = .ok (.value u) w := by
    simp only [execOp, ho, Sem.run_bind, List.map_toArray, List.map_cons, List.map_nil, hu, Result.andThen_ok, Sem.run_pure]
  rw [this]
  exact ⟨Below.refl _ _, hF⟩
theorem fstep_build (t : TypeId) (len : Nat) (x : Operand) (k : Nat) (ho : o.op = .buildSlice t len #[(k, x)]) (hw : ∀ (ev : Operand → Value) (w : World), (∀ j oj d, j < n → ops[j]? = some oj → Region.waitsOn md o j = true → oj.dst = some d → F j (ev (.tmp d)) w) → Region.wanted o (evY ops ev) = true) (h : ∀ (ev : Operand → Value) (w : World), Below w0.heap.size w0 w → (∀ v, ev (.const v) = v) → (∀ t, Region.dstFree ops n t = true → ev (.tmp t) = a0.tmps.getD t undef) →
    (∀ j oj d, j < n → ops[j]? = some oj → Region.waitsOn md o j = true → oj.dst = some d → F j (ev (.tmp d)) w) → ∃ u w', (Instr.buildSlice t len #[(k, ev x)]).run P w = .ok u w' ∧ Below w.heap.size w w' ∧ F i u w') : FStep P md ops n w0 a0 F i o := by
  intro ev w hb hc hg hf hs hp
  rw [if_pos (hw ev w hp)]
  obtain ⟨u, w', hu, hbel, hF⟩ := h ev w hb hc hs hp
  have : (execOp ev o).run P w = .ok (.value u) w' := by
    simp only [execOp, ho, Sem.run_bind, List.map_toArray, List.map_cons, List.map_nil, hu, Result.andThen_ok, Sem.run_pure]
  rw [this]
  exact ⟨hbel, hF⟩
theorem fstep_call (f : FuncId) (args : Array Operand) (ts : Array TypeId) (ho : o.op = .call { callee := .value (.func f), args := args, argTypes := ts }) (hw : ∀ (ev : Operand → Value) (w : World), (∀ j oj d, j < n → ops[j]? = some oj → Region.waitsOn md o j = true → oj.dst = some d → F j (ev (.tmp d)) w) → Region.wanted o (evY ops ev) = true) (vs : Array Value)
    (eg : ∀ w, (callFunc f vs).run P w = .ok (.enter f vs) w)
    (h : ∀ (ev : Operand → Value) (w : World), Below w0.heap.size w0 w → (∀ v, ev (.const v) = v) → (∀ t, Region.dstFree ops n t = true → ev (.tmp t) = a0.tmps.getD t undef) →
    (∀ j oj d, j < n → ops[j]? = some oj → Region.waitsOn md o j = true → oj.dst = some d → F j (ev (.tmp d)) w) → args.map ev = vs ∧ Calls P f vs w (fun e w'' => ∃ v, e = .returned v ∧ Below w.heap.size w w'' ∧ F i v w'')) : FStep P md ops n w0 a0 F i o := by
  intro ev w hb hc hg hf hs hp
  rw [if_pos (hw ev w hp)]
  obtain ⟨hv, hC⟩ := h ev w hb hc hs hp
  have : (execOp ev o).run P w = .ok (.enter f vs) w := by
    simp only [execOp, ho, Sem.run_bind, resolve, hf, hv, Deferred.ofValue, Array.empty_append, Result.andThen_ok, Sem.run_pure, invoke, Array.append_empty, eg]
  rw [this]
  exact ⟨rfl, hC⟩
end

theorem strs_row (cs : Array Value) (t : TypeId) (k : Nat) (ps : Nat → ByteArray) (w : World) (h : ∀ i, i < k → cs[i]? = some (.string (ps i))) : Strs (w.alloc (.cells cs t)) (some ⟨w.heap.size, 0, none⟩) k ps := by
  intro i hi
  refine ⟨w.heap.size, 0, rfl, ?_⟩
  refine cell_of_blk (heap_alloc_last _ _) _ ?_
  rw [Nat.zero_add]
  exact h i hi
def linkPs (n i k : Int) (x : ByteArray) : Nat → ByteArray := psL [numB n 2, oneB i, oneB k, x]
def linkB (n i k : Int) (x : ByteArray) : ByteArray := (shaB (tagN 33 (linkPs n i k x) 4)).extract 0 16
theorem link_row (n i k : Int) (x : ByteArray) : ∀ t, t < 4 → (#[.string (numB n 2), .string (oneB i), .string (oneB k), .string x] : Array Value)[t]? = some (.string (linkPs n i k x t)) := by
  intro t ht
  have h4 : t = 0 ∨ t = 1 ∨ t = 2 ∨ t = 3 := by omega
  rcases h4 with rfl | rfl | rfl | rfl <;> rfl
def chainN (n i a : Int) (x : ByteArray) : Nat → ByteArray
  | 0 => x
  | m + 1 => linkB n i (a + m) (chainN n i a x m)
theorem link_sz (n i k : Int) (x : ByteArray) : (tagN 33 (linkPs n i k x) 4).size = 1 + (4 + 2) + (4 + 1) + (4 + 1) + (4 + x.size) := by
  rw [tagN_succ, tagN_succ, tagN_succ, tagN_succ]
  show (oneB 33).size + 4 + (numB n 2).size + 4 + (oneB i).size + 4 + (oneB k).size + 4 + x.size = _
  rw [oneB_size, oneB_size, oneB_size, shanum_size]
  omega
theorem link_size (n i k : Int) (x : ByteArray) : (linkB n i k x).size = 16 := by
  unfold linkB
  rw [ByteArray.size_extract, show (shaB (tagN 33 (linkPs n i k x) 4)).size = 32 from outN_size _ 8]
  rfl
def ChRel (n i a : Int) (x : ByteArray) (m : Nat) (w : World) (s k : Value) (wr : World) : Prop :=
  ∃ j : Nat, j ≤ m ∧ k = .int .i64 (a + j) ∧ s = .string (chainN n i a x j) ∧ (chainN n i a x j).size ≤ 1000 + x.size ∧ Below w.heap.size w wr

set_option maxRecDepth 100000 in
set_option maxHeartbeats 1000000 in
theorem chain_any (n i a b : Int) (x : ByteArray) (hn : 0 ≤ n ∧ n < 65536) (hi : 0 ≤ i ∧ i < 256) (ha : 0 ≤ a) (hb : b < 256) (hx : x.size ≤ 1000000) (w : World) :
    Calls Tryz.prog 210 #[.int .i64 n, .int .i64 i, .int .i64 a, .int .i64 b, .string x] w fun e w' => e = .returned (.string (chainN n i a x (b - a).toNat)) ∧ Below w.heap.size w w' := by
  go_enter Tryz.func210, Tryz.ntmps210
  go_wp2_with fail
  go_loopw [4, 11] (fun s k wr => ChRel n i a x (b - a).toNat w s k wr) (fun _ k _ => (b - intOf k).toNat)
  case atStart => exact ⟨0, Nat.zero_le _, by rw [Int.natCast_zero, Int.add_zero], rfl, by show x.size ≤ _; omega, Below.refl _ _⟩
  case round =>
    obtain ⟨j, hj, rfl, rfl, hsz, hbel⟩ := hrel
    have HB := Lib.hid hbel
    clear hbel
    by_cases hlt : a + (j : Int) < b
    · generalize hy : chainN n i a x j = y at hsz ⊢
      have Hy := Lib.hid hy
      clear hy
      go_wp2_with fail
      refine (two_any n hn wr).mono ?_
      rintro e w2 ⟨rfl, hb2⟩
      have HB2 := Lib.hid (HB.out.trans (hb2.mono HB.out.size))
      clear hb2
      go_wp2_with fail
      refine (one_any i hi w2).mono ?_
      rintro e w3 ⟨rfl, hb3⟩
      have HB3 := Lib.hid (HB2.out.trans (hb3.mono HB2.out.size))
      clear hb3
      go_wp2_with fail
      refine (one_any (a + j) ⟨by omega, by omega⟩ w3).mono ?_
      rintro e w4 ⟨rfl, hb4⟩
      have HB4 := Lib.hid (HB3.out.trans (hb4.mono HB3.out.size))
      clear hb4
      go_wp2_with fail
      refine (tag_any 33 (by decide) _ 4 4 (linkPs n i (a + j) y) _ (strs_row _ _ 4 _ w4 ?_) (by decide) (by rw [link_sz]; omega)).mono ?_
      · intro t ht
        have h4 : t = 0 ∨ t = 1 ∨ t = 2 ∨ t = 3 := by omega
        rcases h4 with rfl | rfl | rfl | rfl <;> rfl
      rintro e w5 ⟨rfl, hb5⟩
      have HB5 := Lib.hid ((HB4.out.alloc HB4.out.size _).trans (hb5.mono (by rw [size_alloc]; have := HB4.out.size; omega)))
      clear hb5
      have hs5 : (shaB (tagN 33 (linkPs n i (a + j) y) 4)).size = 32 := outN_size _ 8
      go_wp2_with fail
      refine ⟨⟨j + 1, by omega, ?_, ?_, ?_, HB5.out⟩, ?_⟩
      · congr 1; omega
      · show _ = Value.string (linkB n i (a + j) (chainN n i a x j))
        rw [Hy.out]
        rfl
      · show (linkB n i (a + j) (chainN n i a x j)).size ≤ _
        have := link_size n i (a + j) (chainN n i a x j)
        omega
      · show (b - (a + j + 1)).toNat < (b - (a + j)).toNat
        omega
    · go_wp2_with fail
      go_ret
      refine ⟨?_, HB.out⟩
      rw [show (b - a).toNat = j by omega]
      rfl

/-! ### what a one-time signature is: digits, chains' ends, the public value -/
def byN (h : ByteArray) (k : Nat) : Nat := (h.data.toList.getD k 0).toNat
theorem byN_lt (h : ByteArray) (k : Nat) : byN h k < 256 := (h.data.toList.getD k 0).toNat_lt
def dgN (h : ByteArray) (k : Nat) : Nat := if k % 2 = 0 then byN h (k / 2) / 16 else byN h (k / 2) % 16
theorem dgN_lt (h : ByteArray) (k : Nat) : dgN h k < 16 := by
  unfold dgN
  have := byN_lt h (k / 2)
  split <;> omega
theorem dgN_even (h : ByteArray) (j : Nat) : dgN h (2 * j) = byN h j / 16 := by unfold dgN; rw [if_pos (by omega), show 2 * j / 2 = j by omega]
theorem dgN_odd (h : ByteArray) (j : Nat) : dgN h (2 * j + 1) = byN h j % 16 := by unfold dgN; rw [if_neg (by omega), show (2 * j + 1) / 2 = j by omega]
def smN (h : ByteArray) : Nat → Nat
  | 0 => 0
  | j + 1 => smN h j + (30 - byN h j / 16 - byN h j % 16)
theorem smN_le (h : ByteArray) : ∀ j, smN h j ≤ 30 * j
  | 0 => Nat.le_refl _
  | j + 1 => by have := smN_le h j; unfold smN; omega
def dgT (h : ByteArray) (k : Nat) : Nat := if k < 16 then dgN h k else if k = 16 then smN h 8 / 16 else smN h 8 % 16
theorem dgT_lt (h : ByteArray) (k : Nat) : dgT h k < 16 := by
  unfold dgT
  have := smN_le h 8
  have := dgN_lt h k
  split
  · assumption
  · split <;> omega
/-- the digits' cells behind j bytes. -/
def dgC (h : ByteArray) (j : Nat) : Array Value := ((List.range 18).map fun k => Value.int .i64 (if k < 2 * j then dgN h k else 0 : Nat)).toArray
def dgV (h : ByteArray) : Array Value := ((List.range 18).map fun k => Value.int .i64 (dgT h k)).toArray
theorem dgC_size (h : ByteArray) (j : Nat) : (dgC h j).size = 18 := by simp [dgC]
theorem dgV_size (h : ByteArray) : (dgV h).size = 18 := by simp [dgV]
theorem dgC_get (h : ByteArray) (j k : Nat) (hk : k < 18) : (dgC h j)[k]? = some (.int .i64 (if k < 2 * j then dgN h k else 0 : Nat)) := by
  unfold dgC
  rw [List.getElem?_toArray, List.getElem?_map, List.getElem?_range hk]
  rfl
theorem dgV_get (h : ByteArray) (k : Nat) (hk : k < 18) : (dgV h)[k]? = some (.int .i64 (dgT h k)) := by
  unfold dgV
  rw [List.getElem?_toArray, List.getElem?_map, List.getElem?_range hk]
  rfl
theorem dgC_zero (h : ByteArray) : dgC h 0 = Array.replicate 18 (.int .i64 0) := by
  apply Array.ext_getElem?
  intro k
  rcases Nat.lt_or_ge k 18 with hk | hk
  · rw [dgC_get h 0 k hk, if_neg (by omega)]
    rw [Array.getElem?_replicate, if_pos hk]
    rfl
  · rw [Array.getElem?_eq_none (by rw [dgC_size]; exact hk), Array.getElem?_eq_none (by simpa using hk)]
theorem dgC_next (h : ByteArray) (j : Nat) (hj : j < 8) : ((dgC h j).setIfInBounds (2 * j) (.int .i64 (byN h j / 16 : Nat))).setIfInBounds (2 * j + 1) (.int .i64 (byN h j % 16 : Nat)) = dgC h (j + 1) := by
  apply Array.ext_getElem?
  intro k
  rcases Nat.lt_or_ge k 18 with hk | hk
  · rw [dgC_get h (j + 1) k hk]
    by_cases e1 : k = 2 * j + 1
    · subst e1
      rw [Array.getElem?_setIfInBounds_self_of_lt (by rw [Array.size_setIfInBounds, dgC_size]; exact hk), if_pos (by omega), dgN_odd]
    · rw [Array.getElem?_setIfInBounds_ne (Ne.symm e1)]
      by_cases e2 : k = 2 * j
      · subst e2
        rw [Array.getElem?_setIfInBounds_self_of_lt (by rw [dgC_size]; exact hk), if_pos (by omega), dgN_even]
      · rw [Array.getElem?_setIfInBounds_ne (Ne.symm e2), dgC_get h j k hk]
        by_cases e3 : k < 2 * j
        · rw [if_pos e3, if_pos (by omega)]
        · rw [if_neg e3, if_neg (by omega)]
  · rw [Array.getElem?_eq_none (by rw [Array.size_setIfInBounds, Array.size_setIfInBounds, dgC_size]; exact hk), Array.getElem?_eq_none (by rw [dgC_size]; exact hk)]
theorem dgC_last (h : ByteArray) : ((dgC h 8).setIfInBounds 16 (.int .i64 (smN h 8 / 16 : Nat))).setIfInBounds 17 (.int .i64 (smN h 8 % 16 : Nat)) = dgV h := by
  apply Array.ext_getElem?
  intro k
  rcases Nat.lt_or_ge k 18 with hk | hk
  · rw [dgV_get h k hk]
    unfold dgT
    by_cases e1 : k = 17
    · subst e1
      rw [Array.getElem?_setIfInBounds_self_of_lt (by rw [Array.size_setIfInBounds, dgC_size]; exact hk), if_neg (by omega), if_neg (by omega)]
    · rw [Array.getElem?_setIfInBounds_ne (Ne.symm e1)]
      by_cases e2 : k = 16
      · subst e2
        rw [Array.getElem?_setIfInBounds_self_of_lt (by rw [dgC_size]; exact hk), if_neg (by omega), if_pos rfl]
      · rw [Array.getElem?_setIfInBounds_ne (Ne.symm e2), dgC_get h 8 k hk, if_pos (by omega), if_pos (by omega)]
  · rw [Array.getElem?_eq_none (by rw [Array.size_setIfInBounds, Array.size_setIfInBounds, dgC_size]; exact hk), Array.getElem?_eq_none (by rw [dgV_size]; exact hk)]
def psN (l : List ByteArray) : Nat → ByteArray := psL l
def tagB (x : Int) (l : List ByteArray) : ByteArray := shaB (tagN x (psL l) l.length)
theorem tagB_size (x : Int) (l : List ByteArray) : (tagB x l).size = 32 := outN_size _ 8
def txtH (text : ByteArray) : ByteArray := tagB 34 [text]
def secB (seed : ByteArray) (n i : Int) : ByteArray := (tagB 32 [seed, numB n 2, oneB i]).extract 0 16
theorem secB_size (seed : ByteArray) (n i : Int) : (secB seed n i).size = 16 := by
  unfold secB
  rw [ByteArray.size_extract, tagB_size]
  rfl
theorem chainN_size (n i a : Int) (x : ByteArray) (hx : x.size = 16) : ∀ m, (chainN n i a x m).size = 16
  | 0 => hx
  | m + 1 => link_size _ _ _ _
/-- g 0, g 1, .. g (j-1), one behind the other. -/
def allN (g : Nat → ByteArray) : Nat → ByteArray
  | 0 => ⟨#[]⟩
  | j + 1 => allN g j ++ g j
theorem allN_size (g : Nat → ByteArray) : ∀ j, (∀ i, i < j → (g i).size = 16) → (allN g j).size = 16 * j
  | 0, _ => rfl
  | j + 1, h => by
    show (allN g j ++ g j).size = _
    rw [ByteArray.size_append, allN_size g j (fun i hi => h i (by omega)), h j (by omega)]
    omega
def pubB (seed : ByteArray) (n : Int) : ByteArray := tagB 35 [allN (fun i => chainN n i 0 (secB seed n i) 15) 18]
def sigB (seed : ByteArray) (n : Int) (text : ByteArray) : ByteArray := allN (fun i => chainN n i 0 (secB seed n i) (dgT (txtH text) i)) 18
def recB (n : Int) (text sig : ByteArray) : ByteArray := tagB 35 [allN (fun i => chainN n i (dgT (txtH text) i) (sig.extract (16 * i) (16 * i + 16)) (15 - dgT (txtH text) i)) 18]
theorem sigB_size (seed : ByteArray) (n : Int) (text : ByteArray) : (sigB seed n text).size = 288 := by
  unfold sigB
  rw [allN_size]
  intro i hi
  exact chainN_size _ _ _ _ (secB_size _ _ _) _
/-! ### a key's signature -/
def numK (sig : ByteArray) : Int × Int :=
  if sig.size < 291 ∨ 4 < byN sig 0 ∨ sig.size ≠ 291 + 32 * byN sig 0 ∨ 2 ^ byN sig 0 ≤ 256 * byN sig 1 + byN sig 2 then (0, 3) else ((256 * byN sig 1 + byN sig 2 : Nat), 0)
def climbN (sig : ByteArray) (n : Nat) (x : ByteArray) : Nat → ByteArray
  | 0 => x
  | h + 1 => if n / 2 ^ h % 2 = 0 then tagB 37 [climbN sig n x h, sig.extract (291 + 32 * h) (323 + 32 * h)] else tagB 37 [sig.extract (291 + 32 * h) (323 + 32 * h), climbN sig n x h]
def verP (want text sig : ByteArray) : Int :=
  if (numK sig).2 ≠ 0 then (numK sig).2
  else if tagB 38 [oneB (byN sig 0), climbN sig (numK sig).1.toNat (recB (numK sig).1 text (sig.extract 3 291)) (byN sig 0)] = want then 0 else 9

theorem run_one (x : Int) (hx : 0 ≤ x ∧ x < 256) (w0 w : World) (v : Value) (B : Nat) (h : OwnB w B v (oneB x)) : (convert 47 9 v).run Tryz.prog w = .ok (.string (oneB x)) w := run_str h
theorem build_one (x : Int) (hx : 0 ≤ x ∧ x < 256) (B : Nat) (w : World) (hB : B ≤ w.heap.size) : ∃ u w', (Instr.buildSlice 47 1 #[(0, .int .u8 x)]).run Tryz.prog w = .ok u w' ∧ Below w.heap.size w w' ∧ OwnB w' B u (oneB x) := by
  refine ⟨.slice (some ⟨w.heap.size, 0, none⟩) 1 1, w.alloc (.cells #[.int .u8 x] 5), by kernel_rfl, (Below.refl _ _).alloc (Nat.le_refl _) _, ?_⟩
  refine ⟨by rw [strCells_one, oneB_size, Nat.one_mul]; rfl, .inr ⟨w.heap.size, 1, #[.int .u8 x], ?_, hB, heap_alloc_last _ _, ?_⟩⟩
  · rw [oneB_size]
  · rw [strCells_one, oneB_size, show x % 256 = x by omega]
    exact ⟨by decide, by decide, rfl, rfl⟩
theorem conv_u64 (n : Int) (hn : 0 ≤ n ∧ n < 65536) (w : World) : (convert 3 117 (.int .i64 n)).run Tryz.prog w = .ok (.int .u64 n) w := by
  have e1 : IntKind.u64.wrap n = n := by rw [show IntKind.u64.wrap n = n % 18446744073709551616 by simp [IntKind.wrap, IntKind.bits, IntKind.signed]]; omega
  have : (convert 3 117 (.int .i64 n)).run Tryz.prog w = .ok (.int .u64 (IntKind.u64.wrap n)) w := by kernel_rfl
  rw [this, e1]
theorem conv_u8 (n : Int) (hn : 0 ≤ n ∧ n < 256) (w : World) : (convert 3 5 (.int .i64 n)).run Tryz.prog w = .ok (.int .u8 n) w := by
  have e1 : IntKind.u8.wrap n = n := by rw [show IntKind.u8.wrap n = n % 256 by simp [IntKind.wrap, IntKind.bits, IntKind.signed]]; omega
  have : (convert 3 5 (.int .i64 n)).run Tryz.prog w = .ok (.int .u8 (IntKind.u8.wrap n)) w := by kernel_rfl
  rw [this, e1]

set_option maxRecDepth 100000 in
set_option maxHeartbeats 1000000 in
theorem links_any (n i a b : Int) (x : ByteArray) (hn : 0 ≤ n ∧ n < 65536) (hi : 0 ≤ i ∧ i < 256) (ha : 0 ≤ a) (hb : b < 256) (hx : x.size ≤ 1000000) (w : World) :
    Calls Tryz.prog 119 #[.int .i64 n, .int .i64 i, .int .i64 a, .int .i64 b, .string x] w fun e w' => e = .returned (.string (chainN n i a x (b - a).toNat)) ∧ Below w.heap.size w w' := by
  go_enter Tryz.func119, Tryz.ntmps119
  go_wp2_with fail
  go_loopw [4, 11] (fun s k wr => ChRel n i a x (b - a).toNat w s k wr) (fun _ k _ => (b - intOf k).toNat)
  case atStart => exact ⟨0, Nat.zero_le _, by rw [Int.natCast_zero, Int.add_zero], rfl, by show x.size ≤ _; omega, Below.refl _ _⟩
  case round =>
    obtain ⟨j, hj, rfl, rfl, hsz, hbel⟩ := hrel
    have HB := Lib.hid hbel
    clear hbel
    by_cases hlt : a + (j : Int) < b
    · generalize hy : chainN n i a x j = y at hsz ⊢
      have Hy := Lib.hid hy
      clear hy
      go_wp2_with fail
      have hk : 0 ≤ a + (j : Int) ∧ a + (j : Int) < 256 := by omega
      refine wp_region_facts 12 34 (FtF w.heap.size [.v (.int .i64 n), .v (.int .u64 n), .v (.string (numB n 2)), .v (.int .i64 i), .v (.int .u8 i), .own (oneB i), .v (.string (oneB i)), .v (.int .i64 (a + j)), .v (.int .u8 (a + j)), .own (oneB (a + j)), .v (.string (oneB (a + j))), .v (.string y)]) (by kernel_rfl) (by kernel_rfl) rfl (FtF.stable _ _) ⟨?_, ?_, ?_, ?_, ?_, ?_, ?_, ?_, ?_, ?_, ?_, ?_, trivial⟩ ?_
      · exact fstep_move (.tmp 0) rfl (fun _ _ _ => rfl) fun ev w1 hc hs hp => hs 0 (by kernel_rfl)
      · exact fstep_conv _ _ (.tmp 18) rfl (fun _ _ _ => rfl) fun ev w1 hb hc hs hp => ⟨_, (congrArg (fun v => (convert 3 117 v).run Tryz.prog w1) (hp 0 _ _ (by decide) rfl (by kernel_rfl) rfl)).trans (conv_u64 n hn w1), rfl⟩
      · exact fstep_call 67 #[.tmp 19, .const (.int .i64 2)] _ rfl (fun _ _ _ => rfl) #[.int .u64 n, .int .i64 2] (fun w => by kernel_rfl) fun ev w1 hb hc hs hp =>
          ⟨by simp only [List.map_toArray, List.map_cons, List.map_nil, hc, show ev (.tmp 19) = .int .u64 n from hp 1 _ _ (by decide) rfl (by kernel_rfl) rfl],
            (onumber_any n 2 ⟨hn.1, by omega⟩ (by decide) w1).mono fun e w2 ⟨he, hb⟩ => ⟨_, he, hb, rfl⟩⟩
      · exact fstep_move (.tmp 1) rfl (fun _ _ _ => rfl) fun ev w1 hc hs hp => hs 1 (by kernel_rfl)
      · exact fstep_conv _ _ (.tmp 21) rfl (fun _ _ _ => rfl) fun ev w1 hb hc hs hp => ⟨_, (congrArg (fun v => (convert 3 5 v).run Tryz.prog w1) (hp 3 _ _ (by decide) rfl (by kernel_rfl) rfl)).trans (conv_u8 i hi w1), rfl⟩
      · exact fstep_build _ _ (.tmp 22) 0 rfl (fun _ _ _ => rfl) fun ev w1 hb hc hs hp => by
          rw [show ev (.tmp 22) = .int .u8 i from hp 4 _ _ (by decide) rfl (by kernel_rfl) rfl]
          exact build_one i hi w.heap.size w1 (Nat.le_trans HB.out.size hb.size)
      · exact fstep_conv _ _ (.tmp 23) rfl (fun _ _ _ => rfl) fun ev w1 hb hc hs hp => ⟨_, run_str (hp 5 _ _ (by decide) rfl (by kernel_rfl) rfl), rfl⟩
      · exact fstep_move (.tmp 11) rfl (fun _ _ _ => rfl) fun ev w1 hc hs hp => hs 11 (by kernel_rfl)
      · exact fstep_conv _ _ (.tmp 25) rfl (fun _ _ _ => rfl) fun ev w1 hb hc hs hp => ⟨_, (congrArg (fun v => (convert 3 5 v).run Tryz.prog w1) (hp 7 _ _ (by decide) rfl (by kernel_rfl) rfl)).trans (conv_u8 (a + j) hk w1), rfl⟩
      · exact fstep_build _ _ (.tmp 26) 0 rfl (fun _ _ _ => rfl) fun ev w1 hb hc hs hp => by
          rw [show ev (.tmp 26) = .int .u8 (a + j) from hp 8 _ _ (by decide) rfl (by kernel_rfl) rfl]
          exact build_one (a + j) hk w.heap.size w1 (Nat.le_trans HB.out.size hb.size)
      · exact fstep_conv _ _ (.tmp 27) rfl (fun _ _ _ => rfl) fun ev w1 hb hc hs hp => ⟨_, run_str (hp 9 _ _ (by decide) rfl (by kernel_rfl) rfl), rfl⟩
      · exact fstep_move (.tmp 4) rfl (fun _ _ _ => rfl) fun ev w1 hc hs hp => hs 4 (by kernel_rfl)
      intro a' w1 H
      have HB1 := Lib.hid (HB.out.trans (H.below.mono HB.out.size))
      have e20 : a'.tmps.getD 20 undef = .string (numB n 2) := H.facts 2 _ _ (by decide) rfl (by kernel_rfl) rfl
      have e24 : a'.tmps.getD 24 undef = .string (oneB i) := H.facts 6 _ _ (by decide) rfl (by kernel_rfl) rfl
      have e28 : a'.tmps.getD 28 undef = .string (oneB (a + j)) := H.facts 10 _ _ (by decide) rfl (by kernel_rfl) rfl
      have e29 : a'.tmps.getD 29 undef = .string y := H.facts 11 _ _ (by decide) rfl (by kernel_rfl) rfl
      rw [act_list 34 [0, 1, 2, 3, 4, 5, 6, 7, 8, 9, 10, 11, 12, 13, 14, 15, 16, 17, 18, 19, 20, 21, 22, 23, 24, 25, 26, 27, 28, 29, 30, 31, 32, 33] rfl H.size]
      simp only [List.map_cons, List.map_nil, e20, e24, e28, e29, H.defers, H.same 0 (by kernel_rfl), H.same 1 (by kernel_rfl), H.same 2 (by kernel_rfl), H.same 3 (by kernel_rfl), H.same 4 (by kernel_rfl), H.same 5 (by kernel_rfl), H.same 6 (by kernel_rfl), H.same 7 (by kernel_rfl), H.same 8 (by kernel_rfl), H.same 9 (by kernel_rfl), H.same 10 (by kernel_rfl), H.same 11 (by kernel_rfl), H.same 12 (by kernel_rfl), H.same 13 (by kernel_rfl), H.same 14 (by kernel_rfl), H.same 15 (by kernel_rfl), H.same 16 (by kernel_rfl), H.same 17 (by kernel_rfl), H.same 30 (by kernel_rfl), H.same 31 (by kernel_rfl), H.same 32 (by kernel_rfl), H.same 33 (by kernel_rfl)]
      simp only [Array.getD_eq_getD_getElem?, List.getElem?_toArray, List.getElem?_cons_zero, List.getElem?_cons_succ, Option.getD_some]
      clear e20 e24 e28 e29 H
      show wpList _ _ _ _ _ _
      go_wp2_with fail
      refine (reftag_any 33 (by decide) _ 4 4 (linkPs n i (a + j) y) _ (strs_row _ _ 4 _ w1 ?_) (by decide) (by rw [link_sz]; omega)).mono ?_
      · exact link_row n i (a + j) y
      rintro e w5 ⟨rfl, hb5⟩
      have HB5 := Lib.hid ((HB1.out.alloc HB1.out.size _).trans (hb5.mono (by rw [size_alloc]; have := HB1.out.size; omega)))
      clear hb5
      have hs5 : (shaB (tagN 33 (linkPs n i (a + j) y) 4)).size = 32 := outN_size _ 8
      go_wp2_with fail
      refine ⟨⟨j + 1, by omega, ?_, ?_, ?_, HB5.out⟩, ?_⟩
      · congr 1; omega
      · show _ = Value.string (linkB n i (a + j) (chainN n i a x j))
        rw [Hy.out]
        rfl
      · show (linkB n i (a + j) (chainN n i a x j)).size ≤ _
        have := link_size n i (a + j) (chainN n i a x j)
        omega
      · show (b - (a + j + 1)).toNat < (b - (a + j)).toNat
        omega
    · go_wp2_with fail
      go_ret
      refine ⟨?_, HB.out⟩
      rw [show (b - a).toNat = j by omega]
      rfl

theorem row3 (a b c : ByteArray) : ∀ t, t < 3 → (#[.string a, .string b, .string c] : Array Value)[t]? = some (.string (psL [a, b, c] t)) := by
  intro t ht
  have h4 : t = 0 ∨ t = 1 ∨ t = 2 := by omega
  rcases h4 with rfl | rfl | rfl <;> rfl
theorem row2 (a b : ByteArray) : ∀ t, t < 2 → (#[.string a, .string b] : Array Value)[t]? = some (.string (psL [a, b] t)) := by
  intro t ht
  have h4 : t = 0 ∨ t = 1 := by omega
  rcases h4 with rfl | rfl <;> rfl
theorem row1 (a : ByteArray) : ∀ t, t < 1 → (#[.string a] : Array Value)[t]? = some (.string (psL [a] t)) := by
  intro t ht
  obtain rfl : t = 0 := by omega
  rfl
theorem tagN_sz3 (x : Int) (a b c : ByteArray) : (tagN x (psL [a, b, c]) 3).size = 1 + (4 + a.size) + (4 + b.size) + (4 + c.size) := by
  rw [tagN_succ, tagN_succ, tagN_succ]
  show (oneB x).size + 4 + a.size + 4 + b.size + 4 + c.size = _
  rw [oneB_size]
  omega
theorem tagN_sz2 (x : Int) (a b : ByteArray) : (tagN x (psL [a, b]) 2).size = 1 + (4 + a.size) + (4 + b.size) := by
  rw [tagN_succ, tagN_succ]
  show (oneB x).size + 4 + a.size + 4 + b.size = _
  rw [oneB_size]
  omega
theorem tagN_sz1 (x : Int) (a : ByteArray) : (tagN x (psL [a]) 1).size = 1 + (4 + a.size) := by
  rw [tagN_succ]
  show (oneB x).size + 4 + a.size = _
  rw [oneB_size]
  omega

set_option maxRecDepth 100000 in
set_option maxHeartbeats 1000000 in
theorem rsecret_any (seed : ByteArray) (n i : Int) (hn : 0 ≤ n ∧ n < 65536) (hi : 0 ≤ i ∧ i < 256) (hs : seed.size ≤ 1000000) (w : World) :
    Calls Tryz.prog 120 #[.string seed, .int .i64 n, .int .i64 i] w fun e w' => e = .returned (.string (secB seed n i)) ∧ Below w.heap.size w w' := by
  go_enter Tryz.func120, Tryz.ntmps120
  go_wp2_with fail
  refine wp_region_facts 8 18 (FtF w.heap.size [.v (.string seed), .v (.int .i64 n), .v (.int .u64 n), .v (.string (numB n 2)), .v (.int .i64 i), .v (.int .u8 i), .own (oneB i), .v (.string (oneB i))]) (by kernel_rfl) (by kernel_rfl) rfl (FtF.stable _ _) ⟨?_, ?_, ?_, ?_, ?_, ?_, ?_, ?_, trivial⟩ ?_
  · exact fstep_move (.tmp 0) rfl (fun _ _ _ => rfl) fun ev w1 hc hs hp => hs 0 (by kernel_rfl)
  · exact fstep_move (.tmp 1) rfl (fun _ _ _ => rfl) fun ev w1 hc hs hp => hs 1 (by kernel_rfl)
  · exact fstep_conv _ _ (.tmp 8) rfl (fun _ _ _ => rfl) fun ev w1 hb hc hs hp => ⟨_, (congrArg (fun v => (convert 3 117 v).run Tryz.prog w1) (hp 1 _ _ (by decide) rfl (by kernel_rfl) rfl)).trans (conv_u64 n hn w1), rfl⟩
  · exact fstep_call 67 #[.tmp 9, .const (.int .i64 2)] _ rfl (fun _ _ _ => rfl) #[.int .u64 n, .int .i64 2] (fun w => by kernel_rfl) fun ev w1 hb hc hs hp =>
      ⟨by simp only [List.map_toArray, List.map_cons, List.map_nil, hc, show ev (.tmp 9) = .int .u64 n from hp 2 _ _ (by decide) rfl (by kernel_rfl) rfl],
        (onumber_any n 2 ⟨hn.1, by omega⟩ (by decide) w1).mono fun e w2 ⟨he, hb⟩ => ⟨_, he, hb, rfl⟩⟩
  · exact fstep_move (.tmp 2) rfl (fun _ _ _ => rfl) fun ev w1 hc hs hp => hs 2 (by kernel_rfl)
  · exact fstep_conv _ _ (.tmp 11) rfl (fun _ _ _ => rfl) fun ev w1 hb hc hs hp => ⟨_, (congrArg (fun v => (convert 3 5 v).run Tryz.prog w1) (hp 4 _ _ (by decide) rfl (by kernel_rfl) rfl)).trans (conv_u8 i hi w1), rfl⟩
  · exact fstep_build _ _ (.tmp 12) 0 rfl (fun _ _ _ => rfl) fun ev w1 hb hc hs hp => by
      rw [show ev (.tmp 12) = .int .u8 i from hp 5 _ _ (by decide) rfl (by kernel_rfl) rfl]
      exact build_one i hi w.heap.size w1 hb.size
  · exact fstep_conv _ _ (.tmp 13) rfl (fun _ _ _ => rfl) fun ev w1 hb hc hs hp => ⟨_, run_str (hp 6 _ _ (by decide) rfl (by kernel_rfl) rfl), rfl⟩
  intro a' w1 H
  have HB1 := Lib.hid H.below
  have e7 : a'.tmps.getD 7 undef = .string seed := H.facts 0 _ _ (by decide) rfl (by kernel_rfl) rfl
  have e10 : a'.tmps.getD 10 undef = .string (numB n 2) := H.facts 3 _ _ (by decide) rfl (by kernel_rfl) rfl
  have e14 : a'.tmps.getD 14 undef = .string (oneB i) := H.facts 7 _ _ (by decide) rfl (by kernel_rfl) rfl
  rw [act_list 18 [0, 1, 2, 3, 4, 5, 6, 7, 8, 9, 10, 11, 12, 13, 14, 15, 16, 17] rfl H.size]
  simp only [List.map_cons, List.map_nil, e7, e10, e14, H.defers, H.same 0 (by kernel_rfl), H.same 1 (by kernel_rfl), H.same 2 (by kernel_rfl), H.same 3 (by kernel_rfl), H.same 4 (by kernel_rfl), H.same 5 (by kernel_rfl), H.same 6 (by kernel_rfl), H.same 15 (by kernel_rfl), H.same 16 (by kernel_rfl), H.same 17 (by kernel_rfl)]
  simp only [Array.getD_eq_getD_getElem?, List.getElem?_toArray, List.getElem?_cons_zero, List.getElem?_cons_succ, Option.getD_some]
  clear e7 e10 e14 H
  show wpList _ _ _ _ _ _
  go_wp2_with fail
  refine (reftag_any 32 (by decide) _ 3 3 (psL [seed, numB n 2, oneB i]) _ (strs_row _ _ 3 _ w1 (row3 _ _ _)) (by decide) (by rw [tagN_sz3, shanum_size, oneB_size]; omega)).mono ?_
  rintro e w5 ⟨rfl, hb5⟩
  have HB5 := Lib.hid ((HB1.out.alloc HB1.out.size _).trans (hb5.mono (by rw [size_alloc]; have := HB1.out.size; omega)))
  clear hb5
  have hs5 : (shaB (tagN 32 (psL [seed, numB n 2, oneB i]) 3)).size = 32 := outN_size _ 8
  go_wp2_with fail
  go_ret
  exact ⟨rfl, HB5.out⟩

abbrev T18 : TypeId := 145
theorem und18 : Tryz.prog.underlying T18 = some (.array 18 3) := by kernel_rfl
theorem dgV_one (h : ByteArray) : (dgV h).all (·.oneCell') = true := by
  rw [Array.all_eq_true_iff_forall_mem]
  intro x hx
  simp only [dgV, List.mem_toArray, List.mem_map] at hx
  obtain ⟨k, _, rfl⟩ := hx
  rfl
theorem inf18 (h : ByteArray) : (Tryz.prog.info? T18).map (·.size) = some (dgV h).size := by rw [dgV_size]; kernel_rfl
theorem and_16 (n : Nat) (hn : n ≤ 240) : bits BinOp.and IntKind.i64 (n : Int) 15 = (n : Int) % 16 := by
  have : ∀ k : Fin 241, bits BinOp.and IntKind.i64 ((k.1 : Nat) : Int) 15 = ((k.1 : Nat) : Int) % 16 := by decide +kernel
  exact this ⟨n, by omega⟩
/-- a row of 18 numbers, loaded; laid into another row; handed back. -/
theorem wpList_ld18 {ops : Array Oper} {rest : List Oper} {o : Oper} {a : Act} {w : World} {Q : Exit → Act → World → Prop} (hgd : o.guard = none) (x : Operand) (ho : o.op = .load T18 x) (b : Nat) (h : ByteArray) (hx : a.eval x = .pointer (some ⟨b, 0, none⟩)) (hb : w.heap[b]? = some (.cells (dgV h) T18 (0, 0)))
    (k : wpList Tryz.prog ops Q rest (a.put o.dst (.agg (dgV h))) w) : wpList Tryz.prog ops Q (o :: rest) a w :=
  wpList_load_row hgd _ x ho b hx _ (dgV h) (0, 0) _ hb und18 rfl (inf18 h) k
theorem wpList_st18 {ops : Array Oper} {rest : List Oper} {o : Oper} {a : Act} {w : World} {Q : Exit → Act → World → Prop} (hgd : o.guard = none) (x y : Operand) (ho : o.op = .store T18 x y) (b : Nat) (h : ByteArray) (old : Array Value) (hx : a.eval x = .pointer (some ⟨b, 0, none⟩)) (hy : a.eval y = .agg (dgV h)) (hb : w.heap[b]? = some (.cells old T18 (0, 0))) (hold : old.size = 18)
    (k : wpList Tryz.prog ops Q rest (a.put o.dst undef) (w.setRow b (dgV h))) : wpList Tryz.prog ops Q (o :: rest) a w :=
  wpList_store_row hgd T18 x y ho b (dgV h) hx hy T18 old hb (inf18 h) (by rw [hold, dgV_size]) (dgV_one h) k
theorem heap_setRow {w : World} {b : Nat} {cs : Array Value} {T : TypeId} (c' : Array Value) (h : w.heap[b]? = some (.cells cs T (0, 0))) : (w.setRow b c').heap[b]? = some (.cells c' T (0, 0)) := by
  simp only [World.setRow, Array.getElem?_modify, if_true, h, Option.map_some]
theorem below_setRow {B : Nat} {w w' : World} (h : Below B w w') {b : Nat} (hb : B ≤ b) (c' : Array Value) : Below B w (w'.setRow b c') := by
  refine ⟨h.os, h.tape, h.output, ?_, fun k hk => ?_⟩
  · simp only [World.setRow, Array.size_modify]; exact h.size
  · rw [← h.block k hk]
    simp only [World.setRow, Array.getElem?_modify]
    rw [if_neg (by omega)]
theorem byN_extract (h : ByteArray) (j : Nat) (hj : j < 8) (hh : h.size = 32) : (((h.extract 0 8).data.toList.getD j 0).toNat) = byN h j := by
  unfold byN
  congr 1
  simp only [ByteArray.data_extract, Array.toList_extract, List.extract_eq_take_drop, List.drop_zero, Nat.sub_zero, List.getD_eq_getElem?_getD, List.getElem?_take, if_pos hj]
theorem ext8_size (h : ByteArray) (hh : h.size = 32) : (h.extract 0 8).size = 8 := by rw [ByteArray.size_extract, hh]; rfl
def DgRel (h : ByteArray) (b r g : Nat) (w0 : World) (s i : Value) (wr : World) : Prop :=
  ∃ j : Nat, j ≤ 8 ∧ i = .int .i64 j ∧ s = .int .i64 (smN h j) ∧ wr.heap[b]? = some (.cells (dgC h j) T18 (0, 0)) ∧ wr.heap[r]? = some (.cells (dgC h 0) T18 (0, 0)) ∧
    (∀ k, k < 8 → wr.cell? ⟨g, k, none⟩ = some (.int .u8 (byN h k))) ∧ Below w0.heap.size w0 wr

abbrev z18 : Array Value := #[.int .i64 0, .int .i64 0, .int .i64 0, .int .i64 0, .int .i64 0, .int .i64 0, .int .i64 0, .int .i64 0, .int .i64 0, .int .i64 0, .int .i64 0, .int .i64 0, .int .i64 0, .int .i64 0, .int .i64 0, .int .i64 0, .int .i64 0, .int .i64 0]
theorem z18_eq (h : ByteArray) : z18 = dgC h 0 := by rw [dgC_zero]; rfl
/-- a tag of one text, behind two new blocks. -/
theorem tag_one2 (x : Int) (hx : 0 ≤ x ∧ x < 256) (o1 o2 : Obj) (text : ByteArray) (t : TypeId) (ht : text.size ≤ 70368744100000) (w : World) :
    Calls Tryz.prog 180 #[.int .u8 x, .slice (some ⟨w.heap.size + 1 + 1, 0, none⟩) 1 1] (((w.alloc o1).alloc o2).alloc (.cells #[.string text] t)) fun e w' => e = .returned (.string (tagB x [text])) ∧ Below (w.heap.size + 1 + 1) ((w.alloc o1).alloc o2) w' := by
  have h := strs_row #[.string text] t 1 (psL [text]) ((w.alloc o1).alloc o2) (row1 _)
  rw [size_alloc, size_alloc] at h
  refine (tag_any x hx _ 1 1 (psL [text]) _ h (by decide) (by rw [tagN_sz1]; omega)).mono ?_
  rintro e w1 ⟨rfl, hb⟩
  refine ⟨rfl, Below.trans (b := ((w.alloc o1).alloc o2).alloc (.cells #[.string text] t)) ((Below.refl _ _).alloc (by simp) _) (hb.mono (by simp))⟩

set_option maxRecDepth 100000 in
set_option maxHeartbeats 1000000 in
theorem digits_any (text : ByteArray) (ht : text.size ≤ 100000000) (w : World) :
    Calls Tryz.prog 207 #[.string text] w fun e w' => e = .returned (.agg (dgV (txtH text))) ∧ Below w.heap.size w w' := by
  have hi : (Tryz.prog.info? T18).map (·.size) = some 18 := by kernel_rfl
  go_enter Tryz.func207, Tryz.ntmps207
  go_wp2_with fail
  refine (tag_one2 34 (by decide) _ _ text _ (by omega) w).mono ?_
  rintro e w1 ⟨rfl, hb1⟩
  have hB1 : Below w.heap.size w w1 := Below.trans (((Below.refl _ _).alloc (Nat.le_refl _) _).alloc (by simp) _) (hb1.mono (by omega))
  have hr1 : w1.heap[w.heap.size]? = some (.cells z18 T18 (0, 0)) := (hb1.block _ (by omega)).trans (blk_new1 w _ _)
  have hd1 : w1.heap[w.heap.size + 1]? = some (.cells z18 T18 (0, 0)) := (hb1.block _ (by omega)).trans (blk_new2 w _ _)
  have hz : (txtH text).size = 32 := tagB_size _ _
  rw [show tagB 34 [text] = txtH text from rfl]
  generalize hh : txtH text = h at hz ⊢
  have Hh := Lib.hid hh
  clear hh
  rw [z18_eq h] at hr1 hd1
  have HB1 := Lib.hid hB1
  have HR1 := Lib.hid hr1
  have HD1 := Lib.hid hd1
  clear hB1 hr1 hd1 hb1
  go_wp2_with fail
  rw [Lib.run_convert_string_bytes w1 9 47 5 (h.extract 0 8) Tryz.underlying9 Tryz.underlying47 Tryz.underlying5]
  simp only [Result.andThen]
  rw [Oper.upon_value]
  have hsz8 := ext8_size h hz
  have hcell : ∀ j, j < 8 → (Lib.bytesWorld w1 5 (h.extract 0 8)).cell? ⟨w1.heap.size, j, none⟩ = some (.int .u8 (byN h j)) := fun j hj => by
    rw [← byN_extract h j hj hz]
    exact Lib.bytesWorld_cell w1 5 _ j (by rw [hsz8]; exact hj)
  have hbel := Lib.bytesWorld_below w1 5 (h.extract 0 8)
  rw [hsz8]
  generalize Lib.bytesWorld w1 5 (h.extract 0 8) = w2 at hcell hbel ⊢
  have HC := Lib.hid hcell
  have HB2 := Lib.hid (HB1.out.trans (hbel.mono HB1.out.size))
  have HR2 := Lib.hid (blk_later HR1.out hbel)
  have HD2 := Lib.hid (blk_later HD1.out hbel)
  have hlt1 : w.heap.size + 1 < w1.heap.size := (Array.getElem?_eq_some_iff.1 HD1.out).1
  clear hcell hbel HR1 HD1 HB1
  go_wp2_with fail
  go_loopw [4, 13] (fun s i wr => DgRel h (w.heap.size + 1) w.heap.size w1.heap.size w s i wr) (fun _ i _ => 8 - (intOf i).toNat)
  case atStart => exact ⟨0, by decide, rfl, rfl, HD2.out, HR2.out, HC.out, HB2.out⟩
  case round =>
    obtain ⟨j, hj, rfl, rfl, hd, hr, hc, hbel⟩ := hrel
    have HD := Lib.hid hd
    have HR := Lib.hid hr
    have HCC := Lib.hid hc
    have HB := Lib.hid hbel
    clear hd hr hc hbel HD2 HR2 HC HB2
    by_cases hlt : j < 8
    · have hc1 := HCC.out j hlt
      have hb8 := byN_lt h j
      generalize hcc : byN h j = c at hc1 hb8
      have c0 : wr.cell? ⟨w.heap.size + 1, 2 * j, none⟩ = some (.int .i64 (if 2 * j < 2 * j then dgN h (2 * j) else 0 : Nat)) := cell_of_blk HD.out _ (dgC_get h j _ (by omega))
      have c1 : wr.cell? ⟨w.heap.size + 1, 2 * j + 1, none⟩ = some (.int .i64 (if 2 * j + 1 < 2 * j then dgN h (2 * j + 1) else 0 : Nat)) := cell_of_blk HD.out _ (dgC_get h j _ (by omega))
      have f0 := free_of_blk HD.out (2 * j)
      have f1 := free_of_blk HD.out (2 * j + 1)
      go_wp2_with fail
      have hn := dgC_next h j hlt
      rw [hcc] at hn
      have hd3 : ((wr.setCell ⟨w.heap.size + 1, 2 * j, none⟩ (.int .i64 ((c : Int) / 16))).setCell ⟨w.heap.size + 1, 2 * j + 1, none⟩ (.int .i64 ((c : Int) % 16))).heap[w.heap.size + 1]? = some (.cells (dgC h (j + 1)) T18 (0, 0)) := by
        rw [← hn]
        exact blk_set (blk_set HD.out _) _
      have hr3 : ((wr.setCell ⟨w.heap.size + 1, 2 * j, none⟩ (.int .i64 ((c : Int) / 16))).setCell ⟨w.heap.size + 1, 2 * j + 1, none⟩ (.int .i64 ((c : Int) % 16))).heap[w.heap.size]? = some (.cells (dgC h 0) T18 (0, 0)) :=
        blk_set_other (blk_set_other HR.out (by omega) _) (by omega) _
      have hb3 : Below w.heap.size w ((wr.setCell ⟨w.heap.size + 1, 2 * j, none⟩ (.int .i64 ((c : Int) / 16))).setCell ⟨w.heap.size + 1, 2 * j + 1, none⟩ (.int .i64 ((c : Int) % 16))) :=
        (HB.out.setCell (p := ⟨w.heap.size + 1, 2 * j, none⟩) (Nat.le_succ _) _).setCell (p := ⟨w.heap.size + 1, 2 * j + 1, none⟩) (Nat.le_succ _) _
      have hc3 : ∀ k, k < 8 → ((wr.setCell ⟨w.heap.size + 1, 2 * j, none⟩ (.int .i64 ((c : Int) / 16))).setCell ⟨w.heap.size + 1, 2 * j + 1, none⟩ (.int .i64 ((c : Int) % 16))).cell? ⟨w1.heap.size, k, none⟩ = some (.int .u8 (byN h k)) := fun k hk => by
        rw [← HCC.out k hk]
        refine World.cell?_of_block ((Below.heap_setCell _ _ _ _ ?_).trans (Below.heap_setCell _ _ _ _ ?_)) <;> (show w1.heap.size ≠ w.heap.size + 1; omega)
      generalize ((wr.setCell ⟨w.heap.size + 1, 2 * j, none⟩ (.int .i64 ((c : Int) / 16))).setCell ⟨w.heap.size + 1, 2 * j + 1, none⟩ (.int .i64 ((c : Int) % 16))) = w3 at hd3 hr3 hb3 hc3 ⊢
      clear c0 c1 f0 f1 hc1
      have e0 := dgC_get h (j + 1) (2 * j) (by omega)
      have e1 := dgC_get h (j + 1) (2 * j + 1) (by omega)
      rw [if_pos (by omega), dgN_even, hcc] at e0
      rw [if_pos (by omega), dgN_odd, hcc] at e1
      have c0 : w3.cell? ⟨w.heap.size + 1, 2 * j, none⟩ = some (.int .i64 ((c : Int) / 16)) := cell_of_blk hd3 _ e0
      have c1 : w3.cell? ⟨w.heap.size + 1, 2 * j + 1, none⟩ = some (.int .i64 ((c : Int) % 16)) := cell_of_blk hd3 _ e1
      have HD3 := Lib.hid hd3
      have HR3 := Lib.hid hr3
      have HB3 := Lib.hid hb3
      have HC3 := Lib.hid hc3
      have hsm := smN_le h j
      have hsn : smN h (j + 1) = smN h j + (30 - c / 16 - c % 16) := by rw [← hcc]; rfl
      generalize smN h j = sm at hsm hsn ⊢
      clear hd3 hr3 hb3 hc3 e0 e1 hn
      go_big_quiet (fail)
      go_wp2_with fail
      refine ⟨⟨j + 1, hlt, rfl, ?_, HD3.out, HR3.out, HC3.out, ⟨HB3.out.os, HB3.out.tape, HB3.out.output, HB3.out.size, HB3.out.block⟩⟩, ?_⟩
      · congr 1
        rw [hsn]
        omega
      · show 8 - ((j : Int) + 1).toNat < 8 - (j : Int).toNat
        omega
    · obtain rfl : j = 8 := by omega
      have hsm := smN_le h 8
      have c0 := cell_of_blk HD.out _ (dgC_get h 8 16 (by omega))
      have c1 := cell_of_blk HD.out _ (dgC_get h 8 17 (by omega))
      have f0 := free_of_blk HD.out 16
      have f1 := free_of_blk HD.out 17
      have hlast := dgC_last h
      have Hl := Lib.hid hlast
      clear hlast
      generalize smN h 8 = sm at hsm Hl
      have hbit := and_16 sm hsm
      have hd4 : ((wr.setCell ⟨w.heap.size + 1, 16, none⟩ (.int .i64 ((sm : Int) / 16))).setCell ⟨w.heap.size + 1, 17, none⟩ (.int .i64 ((sm : Int) % 16))).heap[w.heap.size + 1]? = some (.cells (dgV h) T18 (0, 0)) := by
        rw [← Hl.out]
        exact blk_set (blk_set HD.out _) _
      have hr4 : ((wr.setCell ⟨w.heap.size + 1, 16, none⟩ (.int .i64 ((sm : Int) / 16))).setCell ⟨w.heap.size + 1, 17, none⟩ (.int .i64 ((sm : Int) % 16))).heap[w.heap.size]? = some (.cells (dgC h 0) T18 (0, 0)) :=
        blk_set_other (blk_set_other HR.out (by omega) _) (by omega) _
      have HD4 := Lib.hid hd4
      have HR4 := Lib.hid hr4
      clear hd4 hr4
      go_wp2_with (first | refine wpList_ld18 rfl (.tmp 3) rfl (w.heap.size + 1) h rfl HD4.out ?_ | refine wpList_st18 rfl (.tmp 2) (.tmp 51) rfl w.heap.size h (dgC h 0) rfl rfl HR4.out (dgC_size h 0) ?_ | fail)
      refine bodyPost_ret (v := .agg (dgV h)) (results_cell_row rfl _ _ w.heap.size T18 (dgV h) (0, 0) _ rfl (heap_setRow _ HR4.out) und18 rfl (inf18 h)) rfl ⟨by rw [Hh.out], below_setRow ?_ (Nat.le_refl _) _⟩
      exact (HB.out.setCell (p := ⟨w.heap.size + 1, 16, none⟩) (Nat.le_succ _) _).setCell (p := ⟨w.heap.size + 1, 17, none⟩) (Nat.le_succ _) _

/-- the answer's tag of one text, behind one new block. -/
theorem rtag_one1 (x : Int) (hx : 0 ≤ x ∧ x < 256) (o1 : Obj) (text : ByteArray) (t : TypeId) (ht : text.size ≤ 70368744100000) (w : World) :
    Calls Tryz.prog 64 #[.int .u8 x, .slice (some ⟨w.heap.size + 1, 0, none⟩) 1 1] ((w.alloc o1).alloc (.cells #[.string text] t)) fun e w' => e = .returned (.string (tagB x [text])) ∧ Below (w.heap.size + 1) (w.alloc o1) w' := by
  have h := strs_row #[.string text] t 1 (psL [text]) (w.alloc o1) (row1 _)
  rw [size_alloc] at h
  refine (reftag_any x hx _ 1 1 (psL [text]) _ h (by decide) (by rw [tagN_sz1]; omega)).mono ?_
  rintro e w1 ⟨rfl, hb⟩
  refine ⟨rfl, Below.trans (b := (w.alloc o1).alloc (.cells #[.string text] t)) ((Below.refl _ _).alloc (by simp) _) (hb.mono (by simp))⟩
def RdgRel (h : ByteArray) (b r : Nat) (w0 : World) (s i : Value) (wr : World) : Prop :=
  ∃ j : Nat, j ≤ 8 ∧ i = .int .i64 j ∧ s = .int .i64 (smN h j) ∧ wr.heap[b]? = some (.cells (dgC h j) T18 (0, 0)) ∧ wr.heap[r]? = some (.cells (dgC h 0) T18 (0, 0)) ∧ Below w0.heap.size w0 wr
theorem dgC_set1 (h : ByteArray) (j : Nat) (hj : j < 8) : ((dgC h j).setIfInBounds (2 * j) (.int .i64 (byN h j / 16 : Nat)))[2 * j + 1]? = some (.int .i64 0) := by
  rw [Array.getElem?_setIfInBounds_ne (by omega), dgC_get h j _ (by omega), if_neg (by omega)]
  rfl

set_option maxRecDepth 100000 in
set_option maxHeartbeats 1000000 in
theorem rdigits_any (text : ByteArray) (ht : text.size ≤ 100000000) (w : World) :
    Calls Tryz.prog 122 #[.string text] w fun e w' => e = .returned (.agg (dgV (txtH text))) ∧ Below w.heap.size w w' := by
  go_enter Tryz.func122, Tryz.ntmps122
  go_wp2_with fail
  refine (rtag_one1 34 (by decide) _ text _ (by omega) w).mono ?_
  rintro e w1 ⟨rfl, hb1⟩
  have hB1 : Below w.heap.size w w1 := Below.trans ((Below.refl _ _).alloc (Nat.le_refl _) _) (hb1.mono (by omega))
  have hr1 : w1.heap[w.heap.size]? = some (.cells z18 T18 (0, 0)) := (hb1.block _ (by omega)).trans (blk_new w _)
  have hz : (txtH text).size = 32 := tagB_size _ _
  rw [show tagB 34 [text] = txtH text from rfl]
  generalize hh : txtH text = h at hz ⊢
  have Hh := Lib.hid hh
  clear hh
  rw [z18_eq h] at hr1
  have HB1 := Lib.hid (hB1.alloc (o := .cells z18 T18) hB1.size)
  have HR1 := Lib.hid (blk_alloc hr1 (.cells z18 T18))
  have hd1 : (w1.alloc (.cells z18 T18)).heap[w1.heap.size]? = some (.cells (dgC h 0) T18 (0, 0)) := (blk_new w1 (.cells z18 T18)).trans (by rw [← z18_eq h])
  have HD1 := Lib.hid hd1
  have hlt1 : w.heap.size < w1.heap.size := (Array.getElem?_eq_some_iff.1 hr1).1
  clear hB1 hr1 hb1 hd1
  go_wp2_with fail
  go_loopw [5, 6] (fun s i wr => RdgRel h w1.heap.size w.heap.size w s i wr) (fun _ i _ => 8 - (intOf i).toNat)
  case atStart => exact ⟨0, by decide, rfl, rfl, HD1.out, HR1.out, HB1.out⟩
  case round =>
    obtain ⟨j, hj, rfl, rfl, hd, hr, hbel⟩ := hrel
    have HD := Lib.hid hd
    have HR := Lib.hid hr
    have HB := Lib.hid hbel
    clear hd hr hbel HD1 HR1 HB1
    by_cases hlt : j < 8
    · have hi1 : ∀ W, (Instr.index 9 (.string h) (.int .i64 (j : Int))).run Tryz.prog W = .ok (.int .u8 (byN h j)) W := fun W => idx_str h j (by omega) W
      have hb8 := byN_lt h j
      have hs1 := dgC_set1 h j hlt
      have hn := dgC_next h j hlt
      generalize hcc : byN h j = c at hi1 hb8 hs1 hn
      have c0 : wr.cell? ⟨w1.heap.size, 2 * j, none⟩ = some (.int .i64 (if 2 * j < 2 * j then dgN h (2 * j) else 0 : Nat)) := cell_of_blk HD.out _ (dgC_get h j _ (by omega))
      have f0 := free_of_blk HD.out (2 * j)
      have hd2 : (wr.setCell ⟨w1.heap.size, 2 * j, none⟩ (.int .i64 ((c : Int) / 16))).heap[w1.heap.size]? = some (.cells ((dgC h j).setIfInBounds (2 * j) (.int .i64 (c / 16 : Nat))) T18 (0, 0)) := blk_set HD.out _
      have c1 := cell_of_blk hd2 _ hs1
      have f1 := free_of_blk hd2 (2 * j + 1)
      clear hs1
      have hd3 : ((wr.setCell ⟨w1.heap.size, 2 * j, none⟩ (.int .i64 ((c : Int) / 16))).setCell ⟨w1.heap.size, 2 * j + 1, none⟩ (.int .i64 ((c : Int) % 16))).heap[w1.heap.size]? = some (.cells (dgC h (j + 1)) T18 (0, 0)) := by
        rw [← hn]
        exact blk_set hd2 _
      have hr3 : ((wr.setCell ⟨w1.heap.size, 2 * j, none⟩ (.int .i64 ((c : Int) / 16))).setCell ⟨w1.heap.size, 2 * j + 1, none⟩ (.int .i64 ((c : Int) % 16))).heap[w.heap.size]? = some (.cells (dgC h 0) T18 (0, 0)) :=
        blk_set_other (blk_set_other HR.out (by omega) _) (by omega) _
      have hb3 : Below w.heap.size w ((wr.setCell ⟨w1.heap.size, 2 * j, none⟩ (.int .i64 ((c : Int) / 16))).setCell ⟨w1.heap.size, 2 * j + 1, none⟩ (.int .i64 ((c : Int) % 16))) :=
        (HB.out.setCell (p := ⟨w1.heap.size, 2 * j, none⟩) (Nat.le_of_lt hlt1) _).setCell (p := ⟨w1.heap.size, 2 * j + 1, none⟩) (Nat.le_of_lt hlt1) _
      have HD3 := Lib.hid hd3
      have HR3 := Lib.hid hr3
      have HB3 := Lib.hid hb3
      have hsm := smN_le h j
      have hsn : smN h (j + 1) = smN h j + (30 - c / 16 - c % 16) := by rw [← hcc]; rfl
      generalize smN h j = sm at hsm hsn ⊢
      clear hd2 hd3 hr3 hb3 hn
      go_wp2_with fail
      generalize ((wr.setCell ⟨w1.heap.size, 2 * j, none⟩ (.int .i64 ((c : Int) / 16))).setCell ⟨w1.heap.size, 2 * j + 1, none⟩ (.int .i64 ((c : Int) % 16))) = w3 at HD3 HR3 HB3 ⊢
      clear c0 f0 c1 f1
      have e0 := dgC_get h (j + 1) (2 * j) (by omega)
      have e1 := dgC_get h (j + 1) (2 * j + 1) (by omega)
      rw [if_pos (by omega), dgN_even, hcc] at e0
      rw [if_pos (by omega), dgN_odd, hcc] at e1
      have c0 : w3.cell? ⟨w1.heap.size, 2 * j, none⟩ = some (.int .i64 ((c : Int) / 16)) := cell_of_blk HD3.out _ e0
      have c1 : w3.cell? ⟨w1.heap.size, 2 * j + 1, none⟩ = some (.int .i64 ((c : Int) % 16)) := cell_of_blk HD3.out _ e1
      clear e0 e1
      go_big_quiet (fail)
      go_wp2_with fail
      refine ⟨⟨j + 1, hlt, rfl, ?_, HD3.out, HR3.out, ⟨HB3.out.os, HB3.out.tape, HB3.out.output, HB3.out.size, HB3.out.block⟩⟩, ?_⟩
      · congr 1
        rw [hsn]
        omega
      · show 8 - ((j : Int) + 1).toNat < 8 - (j : Int).toNat
        omega
    · obtain rfl : j = 8 := by omega
      have hsm := smN_le h 8
      have c0 := cell_of_blk HD.out _ (dgC_get h 8 16 (by omega))
      have f0 := free_of_blk HD.out 16
      have hlast := dgC_last h
      have hs17 : ((dgC h 8).setIfInBounds 16 (.int .i64 (smN h 8 / 16 : Nat)))[17]? = some (.int .i64 0) := by
        rw [Array.getElem?_setIfInBounds_ne (by decide), dgC_get h 8 17 (by omega)]
        rfl
      generalize smN h 8 = sm at hsm hlast hs17
      have hd3 : (wr.setCell ⟨w1.heap.size, 16, none⟩ (.int .i64 ((sm : Int) / 16))).heap[w1.heap.size]? = some (.cells ((dgC h 8).setIfInBounds 16 (.int .i64 (sm / 16 : Nat))) T18 (0, 0)) := blk_set HD.out _
      have c1 := cell_of_blk hd3 _ hs17
      have f1 := free_of_blk hd3 17
      have hd4 : ((wr.setCell ⟨w1.heap.size, 16, none⟩ (.int .i64 ((sm : Int) / 16))).setCell ⟨w1.heap.size, 17, none⟩ (.int .i64 ((sm : Int) % 16))).heap[w1.heap.size]? = some (.cells (dgV h) T18 (0, 0)) := by
        rw [← hlast]
        exact blk_set hd3 _
      have hr4 : ((wr.setCell ⟨w1.heap.size, 16, none⟩ (.int .i64 ((sm : Int) / 16))).setCell ⟨w1.heap.size, 17, none⟩ (.int .i64 ((sm : Int) % 16))).heap[w.heap.size]? = some (.cells (dgC h 0) T18 (0, 0)) :=
        blk_set_other (blk_set_other HR.out (by omega) _) (by omega) _
      have HD4 := Lib.hid hd4
      have HR4 := Lib.hid hr4
      clear hd4 hr4 hlast hs17 hd3
      go_wp2_with (first | refine wpList_ld18 rfl (.tmp 4) rfl w1.heap.size h rfl HD4.out ?_ | refine wpList_st18 rfl (.tmp 2) (.tmp 50) rfl w.heap.size h (dgC h 0) rfl rfl HR4.out (dgC_size h 0) ?_ | fail)
      refine bodyPost_ret (v := .agg (dgV h)) (results_cell_row rfl _ _ w.heap.size T18 (dgV h) (0, 0) _ rfl (heap_setRow _ HR4.out) und18 rfl (inf18 h)) rfl ⟨by rw [Hh.out], below_setRow ?_ (Nat.le_refl _) _⟩
      exact (HB.out.setCell (p := ⟨w1.heap.size, 16, none⟩) (Nat.le_of_lt hlt1) _).setCell (p := ⟨w1.heap.size, 17, none⟩) (Nat.le_of_lt hlt1) _

def recG (n : Int) (text sig : ByteArray) (i : Nat) : ByteArray := chainN n i (dgT (txtH text) i) (sig.extract (16 * i) (16 * i + 16)) (15 - dgT (txtH text) i)
theorem recB_eq (n : Int) (text sig : ByteArray) : recB n text sig = tagB 35 [allN (recG n text sig) 18] := rfl
theorem recG_size (n : Int) (text sig : ByteArray) (hs : sig.size = 288) (i : Nat) (hi : i < 18) : (recG n text sig i).size = 16 :=
  chainN_size _ _ _ _ (by rw [ByteArray.size_extract]; omega) _
def RcvRel (g : Nat → ByteArray) (h : ByteArray) (b : Nat) (w0 : World) (s i : Value) (wr : World) : Prop :=
  ∃ j : Nat, j ≤ 18 ∧ i = .int .i64 j ∧ s = .string (allN g j) ∧ wr.heap[b]? = some (.cells (dgV h) T18 (0, 0)) ∧ Below w0.heap.size w0 wr
/-- the answer's tag of one text, in any world. -/
theorem rtag_one (x : Int) (hx : 0 ≤ x ∧ x < 256) (text : ByteArray) (t : TypeId) (ht : text.size ≤ 70368744100000) (w : World) :
    Calls Tryz.prog 64 #[.int .u8 x, .slice (some ⟨w.heap.size, 0, none⟩) 1 1] (w.alloc (.cells #[.string text] t)) fun e w' => e = .returned (.string (tagB x [text])) ∧ Below w.heap.size w w' := by
  refine (reftag_any x hx _ 1 1 (psL [text]) _ (strs_row #[.string text] t 1 (psL [text]) w (row1 _)) (by decide) (by rw [tagN_sz1]; omega)).mono ?_
  rintro e w1 ⟨rfl, hb⟩
  exact ⟨rfl, ((Below.refl _ _).alloc (Nat.le_refl _) _).trans (hb.mono (by simp))⟩
theorem tag_one (x : Int) (hx : 0 ≤ x ∧ x < 256) (text : ByteArray) (t : TypeId) (ht : text.size ≤ 70368744100000) (w : World) :
    Calls Tryz.prog 180 #[.int .u8 x, .slice (some ⟨w.heap.size, 0, none⟩) 1 1] (w.alloc (.cells #[.string text] t)) fun e w' => e = .returned (.string (tagB x [text])) ∧ Below w.heap.size w w' := by
  refine (tag_any x hx _ 1 1 (psL [text]) _ (strs_row #[.string text] t 1 (psL [text]) w (row1 _)) (by decide) (by rw [tagN_sz1]; omega)).mono ?_
  rintro e w1 ⟨rfl, hb⟩
  exact ⟨rfl, ((Below.refl _ _).alloc (Nat.le_refl _) _).trans (hb.mono (by simp))⟩

set_option maxRecDepth 100000 in
set_option maxHeartbeats 1000000 in
theorem rrecover_any (n : Int) (text sig : ByteArray) (hn : 0 ≤ n ∧ n < 65536) (ht : text.size ≤ 100000000) (hs : sig.size = 288) (w : World) :
    Calls Tryz.prog 183 #[.int .i64 n, .string text, .string sig] w fun e w' => e = .returned (.tuple #[.string (recB n text sig), .int .i64 0]) ∧ Below w.heap.size w w' := by
  rw [recB_eq]
  have hG := fun i hi => recG_size n text sig hs i hi
  have hG2 : ∀ i : Nat, recG n text sig i = chainN n i (dgT (txtH text) i : Nat) (sig.extract (16 * i) (16 * i + 16)) ((15 : Int) - (dgT (txtH text) i : Nat)).toNat := fun i => by
    unfold recG
    congr 1
    omega
  have hD := rdigits_any text ht
  generalize recG n text sig = g at hG hG2 ⊢
  generalize txtH text = h at hG2 hD
  have HG := Lib.hid hG
  have HG2 := Lib.hid hG2
  have HD := Lib.hid hD
  clear hG hG2 hD
  go_enter Tryz.func183, Tryz.ntmps183
  have h1 : ¬ n < 0 := by omega
  have h2 : ¬ (65535 : Int) < n := by omega
  have h3 : (sig.size : Int) = 288 := by omega
  go_wp2_with fail
  refine (HD.out w).mono ?_
  rintro e w1 ⟨rfl, hb1⟩
  have HB1 := Lib.hid hb1
  have HZ : Hid ((w1.alloc (.cells z18 T18)).heap[w1.heap.size]? = some (.cells z18 T18 (0, 0))) := Lib.hid (blk_new _ _)
  clear hb1 HD
  go_wp2_with (first | refine wpList_st18 rfl (.tmp 8) (.tmp 21) rfl w1.heap.size h z18 rfl rfl HZ.out rfl ?_ | fail)
  have hb2 : Below w.heap.size w ((w1.alloc (.cells z18 T18)).setRow w1.heap.size (dgV h)) := below_setRow (HB1.out.alloc HB1.out.size _) HB1.out.size _
  have hd2 : ((w1.alloc (.cells z18 T18)).setRow w1.heap.size (dgV h)).heap[w1.heap.size]? = some (.cells (dgV h) T18 (0, 0)) := heap_setRow _ HZ.out
  generalize (w1.alloc (.cells z18 T18)).setRow w1.heap.size (dgV h) = w2 at hb2 hd2 ⊢
  have HB2 := Lib.hid hb2
  have HD2 := Lib.hid hd2
  generalize w1.heap.size = b at HD2 ⊢
  clear hb2 hd2 HZ HB1
  go_loopw [9, 10] (fun s i wr => RcvRel g h b w s i wr) (fun _ i _ => 18 - (intOf i).toNat)
  case atStart => exact ⟨0, by decide, rfl, rfl, HD2.out, HB2.out⟩
  case round =>
    obtain ⟨j, hj, rfl, rfl, hd, hbel⟩ := hrel
    have HD3 := Lib.hid hd
    have HB3 := Lib.hid hbel
    clear hd hbel HD2 HB2
    have hsz := allN_size g j (fun i hi => HG.out i (by omega))
    by_cases hlt : j < 18
    · have c0 : wr.cell? ⟨b, j, none⟩ = some (.int .i64 (dgT h j)) := cell_of_blk HD3.out _ (dgV_get h j hlt)
      have hgj := HG2.out j
      have hgs := HG.out j hlt
      have hlt16 := dgT_lt h j
      have c0r := cell_regrown c0
      have hxs : (sig.extract (16 * j) (16 * j + 16)).size = 16 := by rw [ByteArray.size_extract]; omega
      have t1 : (16 * (j : Int)).toNat = 16 * j := by omega
      have t2 : (16 * (j : Int) + 16).toNat = 16 * j + 16 := by omega
      have hw1 : IntKind.i64.wrap (16 * (j : Int)) = 16 * (j : Int) := IntWalk.i64_in _ (by omega)
      have hw2 : IntKind.i64.wrap (16 * (j : Int) + 16) = 16 * (j : Int) + 16 := IntWalk.i64_in _ (by omega)
      have hA1 : (0 : Int) ≤ 16 * (j : Int) + 16 := by omega
      have hA2 : 16 * (j : Int) + 16 ≤ 288 := by omega
      have hA3 : (0 : Int) ≤ 16 * (j : Int) := by omega
      have hA4 : 16 * (j : Int) ≤ 16 * (j : Int) + 16 := by omega
      have hA5 : ¬ 9223372036854775807 < 16 * j + 16 := by omega
      generalize hxj : sig.extract (16 * j) (16 * j + 16) = xj at hgj hxs
      generalize dgT h j = dj at c0 c0r hgj hlt16
      have cP : ∀ dd os, Calls Tryz.prog 119 #[.int .i64 n, .int .i64 j, .int .i64 dj, .int .i64 15, .string xj] (grow (redrawn wr dd) os) fun e w'' => e = .returned (.string (g j)) ∧ ∃ p : Regrown, w'' = grow (redrawn wr p.d) p.os :=
        fun dd os => Calls.regrown_of (by
          rw [hgj]
          exact links_any n j dj 15 xj hn ⟨by omega, by omega⟩ (by omega) (by decide) (by omega) _)
      have HS : ¬ 9223372036854775807 < (allN g j).size + (g j).size := by omega
      clear hgj
      have hY : allN g (j + 1) = allN g j ++ g j := rfl
      have HY := Lib.hid hY
      clear hY
      generalize allN g j = aj at hsz HS HY ⊢
      generalize g j = gj at cP hgs HS HY ⊢
      go_wp2_with fail
      refine wp_region_quiet_below (by kernel_rfl) (by kernel_rfl) ?_
      repeat quiet_step (with_reducible exact cP _ _)
      refine wpQuiet_nil ?_
      intro w5 hw5
      obtain ⟨⟨dq, osq⟩, hw''⟩ := hw5
      have hb5 : Below wr.heap.size wr w5 := by rw [hw'']; exact below_regrown wr dq osq
      have HB5 := Lib.hid (HB3.out.trans (hb5.mono HB3.out.size))
      have HD5 := Lib.hid (blk_later HD3.out hb5)
      clear hw'' hb5 HD3 HB3 c0 c0r cP
      go_wp2_with fail
      refine ⟨⟨j + 1, hlt, rfl, ?_, HD5.out, HB5.out⟩, ?_⟩
      · rw [← HY.out]
      · show 18 - ((j : Int) + 1).toNat < 18 - (j : Int).toNat
        omega
    · obtain rfl : j = 18 := by omega
      generalize hal : allN g 18 = al at hsz ⊢
      have Hal := Lib.hid hal
      clear hal
      go_wp2_with fail
      refine (rtag_one 35 (by decide) al _ (by omega) wr).mono ?_
      rintro e w6 ⟨rfl, hb6⟩
      have HB6 := Lib.hid (HB3.out.trans (hb6.mono HB3.out.size))
      clear hb6
      go_wp2_with fail
      go_ret2
      have hf := Hal.out
      subst hf
      exact ⟨rfl, HB6.out⟩

def pubG (seed : ByteArray) (n : Int) (i : Nat) : ByteArray := chainN n i 0 (secB seed n i) 15
def sigG (seed : ByteArray) (n : Int) (text : ByteArray) (i : Nat) : ByteArray := chainN n i 0 (secB seed n i) (dgT (txtH text) i)
theorem pubB_eq (seed : ByteArray) (n : Int) : pubB seed n = tagB 35 [allN (pubG seed n) 18] := rfl
theorem sigB_eq (seed : ByteArray) (n : Int) (text : ByteArray) : sigB seed n text = allN (sigG seed n text) 18 := rfl
theorem pubG_size (seed : ByteArray) (n : Int) (i : Nat) : (pubG seed n i).size = 16 := chainN_size _ _ _ _ (secB_size _ _ _) _
theorem sigG_size (seed : ByteArray) (n : Int) (text : ByteArray) (i : Nat) : (sigG seed n text i).size = 16 := chainN_size _ _ _ _ (secB_size _ _ _) _
def PbRel (g : Nat → ByteArray) (w0 : World) (s i : Value) (wr : World) : Prop :=
  ∃ j : Nat, j ≤ 18 ∧ i = .int .i64 j ∧ s = .string (allN g j) ∧ Below w0.heap.size w0 wr

set_option maxRecDepth 100000 in
set_option maxHeartbeats 1000000 in
theorem rpublic_any (seed : ByteArray) (n : Int) (hn : 0 ≤ n ∧ n < 65536) (hs : seed.size ≤ 1000000) (w : World) :
    Calls Tryz.prog 63 #[.string seed, .int .i64 n] w fun e w' => e = .returned (.tuple #[.string (pubB seed n), .int .i64 0]) ∧ Below w.heap.size w w' := by
  rw [pubB_eq]
  have hG := pubG_size seed n
  have hG2 : ∀ i : Nat, pubG seed n i = chainN n i 0 (secB seed n i) ((15 : Int) - 0).toNat := fun i => rfl
  generalize pubG seed n = g at hG hG2 ⊢
  have HG := Lib.hid hG
  have HG2 := Lib.hid hG2
  clear hG hG2
  go_enter Tryz.func63, Tryz.ntmps63
  have h1 : ¬ n < 0 := by omega
  have h2 : ¬ (65535 : Int) < n := by omega
  go_wp2_with fail
  go_loopw [6, 7] (fun s i wr => PbRel g w s i wr) (fun _ i _ => 18 - (intOf i).toNat)
  case atStart => exact ⟨0, by decide, rfl, rfl, Below.refl _ _⟩
  case round =>
    obtain ⟨j, hj, rfl, rfl, hbel⟩ := hrel
    have HB3 := Lib.hid hbel
    clear hbel
    have hsz := allN_size g j (fun i hi => HG.out i)
    by_cases hlt : j < 18
    · have hgj := HG2.out j
      have hgs := HG.out j
      have hA5 : ¬ 9223372036854775807 < 16 * j + 16 := by omega
      have hY : allN g (j + 1) = allN g j ++ g j := rfl
      have HY := Lib.hid hY
      clear hY
      have HS := Lib.hid (rsecret_any seed n j hn ⟨by omega, by omega⟩ hs)
      have HL := Lib.hid (links_any n j 0 15 (secB seed n j) hn ⟨by omega, by omega⟩ (by decide) (by decide) (by rw [secB_size]; decide))
      rw [← hgj] at HL
      clear hgj
      generalize secB seed n j = sj at HS HL
      generalize allN g j = aj at hsz HY ⊢
      generalize g j = gj at HL hgs HY ⊢
      go_wp2_with fail
      refine (HS.out wr).mono ?_
      rintro e w4 ⟨rfl, hb4⟩
      have HB4 := Lib.hid (HB3.out.trans (hb4.mono HB3.out.size))
      clear hb4
      go_wp2_with fail
      refine (HL.out w4).mono ?_
      rintro e w5 ⟨rfl, hb5⟩
      have HB5 := Lib.hid (HB4.out.trans (hb5.mono HB4.out.size))
      clear hb5
      go_wp2_with fail
      refine ⟨⟨j + 1, hlt, rfl, ?_, HB5.out⟩, ?_⟩
      · rw [← HY.out]
      · show 18 - ((j : Int) + 1).toNat < 18 - (j : Int).toNat
        omega
    · obtain rfl : j = 18 := by omega
      generalize hal : allN g 18 = al at hsz ⊢
      have Hal := Lib.hid hal
      clear hal
      go_wp2_with fail
      refine (rtag_one 35 (by decide) al _ (by omega) wr).mono ?_
      rintro e w6 ⟨rfl, hb6⟩
      have HB6 := Lib.hid (HB3.out.trans (hb6.mono HB3.out.size))
      clear hb6
      go_wp2_with fail
      go_ret2
      have hf := Hal.out
      subst hf
      exact ⟨rfl, HB6.out⟩

set_option maxRecDepth 100000 in
set_option maxHeartbeats 1000000 in
theorem rsign_any (seed : ByteArray) (n : Int) (text : ByteArray) (hn : 0 ≤ n ∧ n < 65536) (hs : seed.size ≤ 1000000) (ht : text.size ≤ 100000000) (w : World) :
    Calls Tryz.prog 66 #[.string seed, .int .i64 n, .string text] w fun e w' => e = .returned (.tuple #[.string (sigB seed n text), .int .i64 0]) ∧ Below w.heap.size w w' := by
  rw [sigB_eq]
  have hG := sigG_size seed n text
  have hG2 : ∀ i : Nat, sigG seed n text i = chainN n i 0 (secB seed n i) ((dgT (txtH text) i : Nat) - (0 : Int)).toNat := fun i => by
    unfold sigG
    congr 1
  have hD := rdigits_any text ht
  generalize sigG seed n text = g at hG hG2 ⊢
  generalize txtH text = h at hG2 hD
  have HG := Lib.hid hG
  have HG2 := Lib.hid hG2
  have HD := Lib.hid hD
  clear hG hG2 hD
  go_enter Tryz.func66, Tryz.ntmps66
  have h1 : ¬ n < 0 := by omega
  have h2 : ¬ (65535 : Int) < n := by omega
  go_wp2_with fail
  refine (HD.out w).mono ?_
  rintro e w1 ⟨rfl, hb1⟩
  have HB1 := Lib.hid hb1
  have HZ : Hid ((w1.alloc (.cells z18 T18)).heap[w1.heap.size]? = some (.cells z18 T18 (0, 0))) := Lib.hid (blk_new _ _)
  clear hb1 HD
  go_wp2_with (first | refine wpList_st18 rfl (.tmp 8) (.tmp 18) rfl w1.heap.size h z18 rfl rfl HZ.out rfl ?_ | fail)
  have hb2 : Below w.heap.size w ((w1.alloc (.cells z18 T18)).setRow w1.heap.size (dgV h)) := below_setRow (HB1.out.alloc HB1.out.size _) HB1.out.size _
  have hd2 : ((w1.alloc (.cells z18 T18)).setRow w1.heap.size (dgV h)).heap[w1.heap.size]? = some (.cells (dgV h) T18 (0, 0)) := heap_setRow _ HZ.out
  generalize (w1.alloc (.cells z18 T18)).setRow w1.heap.size (dgV h) = w2 at hb2 hd2 ⊢
  have HB2 := Lib.hid hb2
  have HD2 := Lib.hid hd2
  generalize w1.heap.size = b at HD2 ⊢
  clear hb2 hd2 HZ HB1
  go_loopw [9, 10] (fun s i wr => RcvRel g h b w s i wr) (fun _ i _ => 18 - (intOf i).toNat)
  case atStart => exact ⟨0, by decide, rfl, rfl, HD2.out, HB2.out⟩
  case round =>
    obtain ⟨j, hj, rfl, rfl, hd, hbel⟩ := hrel
    have HD3 := Lib.hid hd
    have HB3 := Lib.hid hbel
    clear hd hbel HD2 HB2
    have hsz := allN_size g j (fun i hi => HG.out i)
    by_cases hlt : j < 18
    · have c0 : wr.cell? ⟨b, j, none⟩ = some (.int .i64 (dgT h j)) := cell_of_blk HD3.out _ (dgV_get h j hlt)
      have hgj := HG2.out j
      have hgs := HG.out j
      have hlt16 := dgT_lt h j
      have c0r := cell_regrown c0
      have hA5 : ¬ 9223372036854775807 < 16 * j + 16 := by omega
      have hss := secB_size seed n j
      have hSe := rsecret_any seed n j hn ⟨by omega, by omega⟩ hs
      generalize secB seed n j = sj at hgj hss hSe
      generalize dgT h j = dj at c0 c0r hgj hlt16
      have cS : ∀ dd os, Calls Tryz.prog 120 #[.string seed, .int .i64 n, .int .i64 j] (grow (redrawn wr dd) os) fun e w'' => e = .returned (.string sj) ∧ ∃ p : Regrown, w'' = grow (redrawn wr p.d) p.os :=
        fun dd os => Calls.regrown_of (hSe _)
      have cP : ∀ dd os, Calls Tryz.prog 119 #[.int .i64 n, .int .i64 j, .int .i64 0, .int .i64 dj, .string sj] (grow (redrawn wr dd) os) fun e w'' => e = .returned (.string (g j)) ∧ ∃ p : Regrown, w'' = grow (redrawn wr p.d) p.os :=
        fun dd os => Calls.regrown_of (by
          rw [hgj]
          exact links_any n j 0 dj sj hn ⟨by omega, by omega⟩ (by decide) (by omega) (by omega) _)
      clear hgj hSe
      have hY : allN g (j + 1) = allN g j ++ g j := rfl
      have HY := Lib.hid hY
      clear hY
      generalize allN g j = aj at hsz HY ⊢
      generalize g j = gj at cP hgs HY ⊢
      go_wp2_with fail
      refine wp_region_quiet_below (by kernel_rfl) (by kernel_rfl) ?_
      repeat quiet_step (first | with_reducible exact cS _ _ | with_reducible exact cP _ _)
      refine wpQuiet_nil ?_
      intro w5 hw5
      obtain ⟨⟨dq, osq⟩, hw''⟩ := hw5
      have hb5 : Below wr.heap.size wr w5 := by rw [hw'']; exact below_regrown wr dq osq
      have HB5 := Lib.hid (HB3.out.trans (hb5.mono HB3.out.size))
      have HD5 := Lib.hid (blk_later HD3.out hb5)
      clear hw'' hb5 HD3 HB3 c0 c0r cP cS
      go_wp2_with fail
      refine ⟨⟨j + 1, hlt, rfl, ?_, HD5.out, HB5.out⟩, ?_⟩
      · rw [← HY.out]
      · show 18 - ((j : Int) + 1).toNat < 18 - (j : Int).toNat
        omega
    · obtain rfl : j = 18 := by omega
      generalize hal : allN g 18 = al at hsz ⊢
      have Hal := Lib.hid hal
      clear hal
      go_wp2_with fail
      go_ret2
      have hf := Hal.out
      subst hf
      exact ⟨rfl, HB3.out⟩

theorem bld_new (w : World) : Lib.IsBuilderF TB 5 w.heap.size w.heap.size [] (w.alloc (.cells #[.pointer none, .slice none 0 0] 166)) :=
  .inl ⟨Nat.le_refl _, .slice none 0 0, blk_new w _, World.ownsRowF_of (ownB_nil _ _), by simp [Value.ownBlock]⟩
theorem bat_later {T e : TypeId} {B b : Nat} {p : Value} {bs : List Value} {w w' : World} (h : Lib.BuilderAtF T e B b p bs w) (k : Below w.heap.size w w') : Lib.BuilderAtF T e B b p bs w' := by
  have hlt := h.lt
  obtain ⟨hB, v, hb, hown, hne⟩ := h
  exact ⟨hB, v, blk_later hb k, hown.kept (row := none) ⟨k.os, k.tape, k.output, k.size, fun i hi _ => k.block i hi⟩ (by cases hv : v.ownBlock <;> simp), hne⟩
theorem isb_later {T e : TypeId} {B b : Nat} {bs : List Value} {w w' : World} (h : Lib.IsBuilderF T e B b bs w) (k : Below w.heap.size w w') : Lib.IsBuilderF T e B b bs w' :=
  h.imp (fun h => bat_later h k) (fun h => bat_later h k)
/-- a function of an index, behind a closure. -/
def IdxFn (G : Nat) (lb : Array Value) (g : Nat → ByteArray) (w : World) : Prop :=
  ∀ (W : World) (i : Nat), i < 18 → Below w.heap.size w W → Calls Tryz.prog G (#[.int .i64 i] ++ lb) W fun e w' => e = .returned (.string (g i)) ∧ Below W.heap.size W w'
def AlRel (g : Nat → ByteArray) (w0 : World) (i : Value) (wr : World) : Prop :=
  ∃ j : Nat, j ≤ 18 ∧ i = .int .i64 j ∧ Lib.IsBuilderF TB 5 w0.heap.size w0.heap.size (Lib.strCells (allN g j)) wr ∧ Below w0.heap.size w0 wr

set_option maxRecDepth 100000 in
set_option maxHeartbeats 1000000 in
theorem all_any (G : Nat) (lb : Array Value) (eg : ∀ args w, (callFunc G args).run Tryz.prog w = .ok (.enter G args) w) (g : Nat → ByteArray) (hg : ∀ i, i < 18 → (g i).size = 16) (w : World) (hp : IdxFn G lb g w) :
    Calls Tryz.prog 208 #[.func (.func G) #[] lb] w fun e w' => e = .returned (.string (allN g 18)) ∧ Below w.heap.size w w' := by
  have HP := Lib.hid hp
  have HG := Lib.hid hg
  clear hp hg
  go_enter Tryz.func208, Tryz.ntmps208
  go_wp2_with fail
  have HB0 := Lib.hid (bld_new w)
  go_loopw [5] (fun i wr => AlRel g w i wr) (fun i _ => 18 - (intOf i).toNat)
  case atStart => exact ⟨0, by decide, rfl, HB0.out, (Below.refl _ _).alloc (Nat.le_refl _) _⟩
  case round =>
    obtain ⟨j, hj, rfl, hb, hbel⟩ := hrel
    have HB := Lib.hid hb
    have HW := Lib.hid hbel
    clear hb hbel HB0
    have hsz := allN_size g j (fun i hi => HG.out i (by omega))
    by_cases hlt : j < 18
    · have hgs := HG.out j hlt
      have hpf := HP.out wr j hlt HW.out
      have HPF := Lib.hid hpf
      clear hpf
      have hY : allN g (j + 1) = allN g j ++ g j := rfl
      have HY := Lib.hid hY
      clear hY
      go_wp2_with fail
      refine HPF.out.mono ?_
      rintro e w1 ⟨rfl, hb1⟩
      have HW1 := Lib.hid (HW.out.trans (hb1.mono HW.out.size))
      have HB1 := Lib.hid (isb_later HB.out hb1)
      clear hb1 HB HW HPF
      go_wp2_with fail
      refine (bwrite_any w.heap.size w.heap.size _ (g j) _ HB1.out (by rw [Lib.strCells_length]; omega) HW1.out.size).mono ?_
      rintro e w2 ⟨rfl, hb2, hk2⟩
      rw [← strCells_append, ← HY.out] at hb2
      have HB2 := Lib.hid hb2
      have HW2 := Lib.hid (HW1.out.trans hk2)
      clear hb2 hk2 HB1 HW1
      go_wp2_with fail
      refine ⟨⟨j + 1, hlt, rfl, .inr HB2.out, HW2.out⟩, ?_⟩
      show 18 - ((j : Int) + 1).toNat < 18 - (j : Int).toNat
      omega
    · obtain rfl : j = 18 := by omega
      have hne : (allN g 18).data.toList ≠ [] := by
        intro h
        have h2 := congrArg List.length h
        rw [Array.length_toList] at h2
        have h3 : (allN g 18).data.size = 288 := hsz
        rw [h3] at h2
        cases h2
      have hb3 := HB.out
      have hcell : Lib.strCells (allN g 18) = Lib.byteCells (allN g 18).data.toList := rfl
      rw [hcell] at hb3
      have HS3 := Lib.hid (Tryz.Builder_String_f w.heap.size w.heap.size (allN g 18).data.toList wr hb3 hne)
      have harr : (⟨(allN g 18).data.toList.toArray⟩ : ByteArray) = allN g 18 := by rw [Array.toArray_toList]
      rw [harr] at HS3
      clear hb3 hne hcell harr HB
      generalize hal : allN g 18 = al at HS3 ⊢
      have Hal := Lib.hid hal
      clear hal
      go_wp2_with fail
      refine HS3.out.mono ?_
      rintro e w3 ⟨rfl, -, hb⟩
      have HBz := Lib.hid (HW.out.trans hb)
      clear hb
      go_wp2_with fail
      go_ret
      have hf := Hal.out
      subst hf
      exact ⟨rfl, HBz.out⟩

set_option maxRecDepth 100000 in
theorem fit_ok (n : Int) (hn : 0 ≤ n ∧ n < 65536) (w : World) : Calls Tryz.prog 206 #[.int .i64 n] w fun e w' => e = .returned (.int .i64 0) ∧ Below w.heap.size w w' := by
  have h1 : ¬ n < 0 := by omega
  have h2 : ¬ (65535 : Int) < n := by omega
  go_enter Tryz.func206, Tryz.ntmps206
  go_wp2_with fail
  go_ret
  exact ⟨rfl, Below.refl _ _⟩

set_option maxRecDepth 100000 in
set_option maxHeartbeats 1000000 in
theorem recf_any (n : Int) (h sig : ByteArray) (i : Nat) (pn bd ps : Nat) (wr : World) (hn : 0 ≤ n ∧ n < 65536) (hs : sig.size = 288) (hi : i < 18)
    (c1 : wr.cell? ⟨pn, 0, none⟩ = some (.int .i64 n)) (hd : wr.heap[bd]? = some (.cells (dgV h) T18 (0, 0))) (c3 : wr.cell? ⟨ps, 0, none⟩ = some (.string sig)) :
    Calls Tryz.prog 209 #[.int .i64 i, .pointer (some ⟨pn, 0, none⟩), .pointer (some ⟨bd, 0, none⟩), .pointer (some ⟨ps, 0, none⟩)] wr fun e w' =>
      e = .returned (.string (chainN n i (dgT h i : Nat) (sig.extract (16 * i) (16 * i + 16)) ((15 : Int) - (dgT h i : Nat)).toNat)) ∧ Below wr.heap.size wr w' := by
  have c2 : wr.cell? ⟨bd, i, none⟩ = some (.int .i64 (dgT h i)) := cell_of_blk hd _ (dgV_get h i hi)
  have hlt16 := dgT_lt h i
  have c1r := cell_regrown c1
  have c2r := cell_regrown c2
  have c3r := cell_regrown c3
  have hxs : (sig.extract (16 * i) (16 * i + 16)).size = 16 := by rw [ByteArray.size_extract]; omega
  have t1 : (16 * (i : Int)).toNat = 16 * i := by omega
  have t2 : (16 * (i : Int) + 16).toNat = 16 * i + 16 := by omega
  have hw1 : IntKind.i64.wrap (16 * (i : Int)) = 16 * (i : Int) := IntWalk.i64_in _ (by omega)
  have hw2 : IntKind.i64.wrap (16 * (i : Int) + 16) = 16 * (i : Int) + 16 := IntWalk.i64_in _ (by omega)
  have hA1 : (0 : Int) ≤ 16 * (i : Int) + 16 := by omega
  have hA2 : 16 * (i : Int) + 16 ≤ 288 := by omega
  have hA3 : (0 : Int) ≤ 16 * (i : Int) := by omega
  have hA4 : 16 * (i : Int) ≤ 16 * (i : Int) + 16 := by omega
  have hA6 : (0 : Int) ≤ (i : Int) := by omega
  have hA7 : (i : Int) < 18 := by omega
  have h3 : (sig.size : Int) = 288 := by omega
  generalize hxj : sig.extract (16 * i) (16 * i + 16) = xj at hxs ⊢
  generalize dgT h i = dj at c2 c2r hlt16 ⊢
  have hC : ∀ W, Calls Tryz.prog 210 #[.int .i64 n, .int .i64 i, .int .i64 dj, .int .i64 15, .string xj] W fun e w' => e = .returned (.string (chainN n i dj xj ((15 : Int) - dj).toNat)) ∧ Below W.heap.size W w' :=
    fun W => chain_any n i dj 15 xj hn ⟨by omega, by omega⟩ (by omega) (by decide) (by omega) W
  generalize chainN n i dj xj ((15 : Int) - dj).toNat = R at hC ⊢
  have cP : ∀ dd os, Calls Tryz.prog 210 #[.int .i64 n, .int .i64 i, .int .i64 dj, .int .i64 15, .string xj] (grow (redrawn wr dd) os) fun e w'' => e = .returned (.string R) ∧ ∃ p : Regrown, w'' = grow (redrawn wr p.d) p.os :=
    fun dd os => Calls.regrown_of (hC _)
  clear hC
  go_enter Tryz.func209, Tryz.ntmps209
  go_wp2_with fail
  refine wp_region_quiet_below (by kernel_rfl) (by kernel_rfl) ?_
  repeat quiet_step (with_reducible exact cP _ _)
  refine wpQuiet_nil ?_
  intro w5 hw5
  obtain ⟨⟨dq, osq⟩, hw''⟩ := hw5
  have hb5 : Below wr.heap.size wr w5 := by rw [hw'']; exact below_regrown wr dq osq
  have HB5 := Lib.hid hb5
  clear hw'' hb5 c1 c2 c3 c1r c2r c3r cP
  go_wp2_with fail
  go_ret
  exact ⟨rfl, HB5.out⟩

set_option maxRecDepth 100000 in
set_option maxHeartbeats 1000000 in
theorem recover_any (n : Int) (text sig : ByteArray) (hn : 0 ≤ n ∧ n < 65536) (ht : text.size ≤ 100000000) (hs : sig.size = 288) (w : World) :
    Calls Tryz.prog 179 #[.int .i64 n, .string text, .string sig] w fun e w' => e = .returned (.tuple #[.string (recB n text sig), .int .i64 0]) ∧ Below w.heap.size w w' := by
  rw [recB_eq]
  have hG := fun i hi => recG_size n text sig hs i hi
  have hG2 : ∀ i : Nat, recG n text sig i = chainN n i (dgT (txtH text) i : Nat) (sig.extract (16 * i) (16 * i + 16)) ((15 : Int) - (dgT (txtH text) i : Nat)).toNat := fun i => by
    unfold recG
    congr 1
    omega
  have hD := digits_any text ht
  generalize recG n text sig = g at hG hG2 ⊢
  generalize txtH text = h at hG2 hD
  have HG := Lib.hid hG
  have HG2 := Lib.hid hG2
  have HD := Lib.hid hD
  clear hG hG2 hD
  have hsz := allN_size g 18 HG.out
  generalize hal : allN g 18 = al at hsz ⊢
  have Hal := Lib.hid hal
  clear hal
  go_enter Tryz.func179, Tryz.ntmps179
  have h3 : (sig.size : Int) = 288 := by omega
  go_wp2_with fail
  refine (fit_ok n hn _).mono ?_
  rintro e w1 ⟨rfl, hb1⟩
  have hk1 : w1.heap[w.heap.size]? = some (.cells #[.int .i64 n] 3 (0, 0)) := blk_later (blk_new1 w _ _) hb1
  have hk2 : w1.heap[w.heap.size + 1]? = some (.cells #[.string sig] 9 (0, 0)) := blk_later (blk_new2 w _ _) hb1
  have hB1 : Below w.heap.size w w1 := (((Below.refl _ _).alloc (Nat.le_refl _) _).alloc (by simp) _).trans (hb1.mono (by simp; omega))
  have HK1 := Lib.hid hk1
  have HK2 := Lib.hid hk2
  have HB1 := Lib.hid hB1
  have c2 : w1.cell? ⟨w.heap.size + 1, 0, none⟩ = some (.string sig) := cell_of_blk hk2 0 rfl
  clear hk1 hk2 hB1 hb1
  go_wp2_with fail
  refine (HD.out w1).mono ?_
  rintro e w2 ⟨rfl, hb2⟩
  have HK1 := Lib.hid (blk_later HK1.out hb2)
  have HK2 := Lib.hid (blk_later HK2.out hb2)
  have HB2 := Lib.hid (HB1.out.trans (hb2.mono HB1.out.size))
  have HZ : Hid ((w2.alloc (.cells z18 T18)).heap[w2.heap.size]? = some (.cells z18 T18 (0, 0))) := Lib.hid (blk_new _ _)
  clear hb2 HD c2 HB1
  go_wp2_with (first | refine wpList_st18 rfl (.tmp 9) (.tmp 19) rfl w2.heap.size h z18 rfl rfl HZ.out rfl ?_ | fail)
  have hlt2 : w.heap.size + 1 < w2.heap.size := (Array.getElem?_eq_some_iff.1 HK2.out).1
  have hb3 : Below w2.heap.size w2 ((w2.alloc (.cells z18 T18)).setRow w2.heap.size (dgV h)) := below_setRow ((Below.refl _ _).alloc (Nat.le_refl _) _) (Nat.le_refl _) _
  have hd3 : ((w2.alloc (.cells z18 T18)).setRow w2.heap.size (dgV h)).heap[w2.heap.size]? = some (.cells (dgV h) T18 (0, 0)) := heap_setRow _ HZ.out
  generalize (w2.alloc (.cells z18 T18)).setRow w2.heap.size (dgV h) = w3 at hb3 hd3 ⊢
  have HK1 := Lib.hid (blk_later HK1.out hb3)
  have HK2 := Lib.hid (blk_later HK2.out hb3)
  have HB3 := Lib.hid (HB2.out.trans (hb3.mono HB2.out.size))
  generalize w2.heap.size = bd at hd3 hlt2 ⊢
  have HD3 := Lib.hid hd3
  clear hb3 hd3 HZ HB2
  refine (all_any 209 _ (fun args w => by kernel_rfl) g HG.out w3 (fun W i hi hW => ?_)).mono ?_
  · rw [HG2.out i]
    exact recf_any n h sig i w.heap.size bd (w.heap.size + 1) W hn hs hi (cell_of_blk (blk_later HK1.out hW) 0 rfl) (blk_later HD3.out hW) (cell_of_blk (blk_later HK2.out hW) 0 rfl)
  rintro e w4 ⟨rfl, hb4⟩
  have HB4 := Lib.hid (HB3.out.trans (hb4.mono HB3.out.size))
  clear hb4 HB3 HK1 HK2 HD3
  rw [Hal.out]
  go_wp2_with fail
  refine (tag_one 35 (by decide) al _ (by omega) w4).mono ?_
  rintro e w6 ⟨rfl, hb6⟩
  have HB6 := Lib.hid (HB4.out.trans (hb6.mono HB4.out.size))
  clear hb6
  go_wp2_with fail
  go_ret2
  exact ⟨rfl, HB6.out⟩

theorem or_256 (a b : Nat) (ha : a < 256) (hb : b < 256) : bits BinOp.or IntKind.i64 ((a : Int) * 256) (b : Int) = ((256 * a + b : Nat) : Int) := by
  rw [show (a : Int) * 256 = ((256 * a : Nat) : Int) by omega]
  show IntKind.i64.wrap ((BitVec.ofInt 64 ((256 * a : Nat) : Int) ||| BitVec.ofInt 64 ((b : Nat) : Int)).toNat : Int) = _
  rw [BitVec.toNat_or, ofInt_u64 _ (by omega), ofInt_u64 _ (by omega), ← Nat.two_pow_add_eq_or_of_lt (i := 8) hb a]
  exact wrap_i64_small _ (by omega)
theorem idx_at (s : ByteArray) (k : Nat) (h : k < s.size) : ∀ W, (Instr.index 9 (.string s) (.int .i64 k)).run Tryz.prog W = .ok (.int .u8 (byN s k)) W := fun W => idx_str s k h W

set_option maxRecDepth 100000 in
set_option maxHeartbeats 1000000 in
theorem knumber_any (sig : ByteArray) (w : World) :
    Calls Tryz.prog 178 #[.string sig] w fun e w' => e = .returned (.tuple #[.int .i64 (numK sig).1, .int .i64 (numK sig).2]) ∧ Below w.heap.size w w' := by
  obtain ⟨R, hR⟩ : ∃ R, R = numK sig := ⟨_, rfl⟩
  rw [← hR]
  unfold numK at hR
  go_enter Tryz.func178, Tryz.ntmps178
  by_cases h1 : sig.size < 291
  · rw [if_pos (.inl h1)] at hR
    have h2 : (sig.size : Int) < 291 := by omega
    go_wp2_with fail
    go_ret2
    try rw [hR]
    exact ⟨rfl, Below.refl _ _⟩
  · have h2 : ¬ ((sig.size : Int) < 291) := by omega
    have i0 := idx_at sig 0 (by omega)
    have i1 := idx_at sig 1 (by omega)
    have i2 := idx_at sig 2 (by omega)
    rw [show ((0 : Nat) : Int) = 0 from rfl] at i0
    rw [show ((1 : Nat) : Int) = 1 from rfl] at i1
    rw [show ((2 : Nat) : Int) = 2 from rfl] at i2
    have b0 := byN_lt sig 0
    have b1 := byN_lt sig 1
    have b2 := byN_lt sig 2
    generalize byN sig 0 = x0 at *
    generalize byN sig 1 = x1 at *
    generalize byN sig 2 = x2 at *
    by_cases h3 : 4 < x0
    · rw [if_pos (.inr (.inl h3))] at hR
      have h4 : (4 : Int) < x0 := by omega
      go_wp2_with fail
      go_ret2
      try rw [hR]
      exact ⟨rfl, Below.refl _ _⟩
    · have h4 : ¬ ((4 : Int) < x0) := by omega
      by_cases h5 : sig.size ≠ 291 + 32 * x0
      · rw [if_pos (.inr (.inr (.inl h5)))] at hR
        have h7 : ((sig.size : Int) != 291 + 32 * (x0 : Int)) = true := bne_iff_ne.2 (by omega)
        go_wp2_with fail
        go_ret2
        try rw [hR]
        exact ⟨rfl, Below.refl _ _⟩
      · have h7 : ((sig.size : Int) != 291 + 32 * (x0 : Int)) = false := by
          rw [show (sig.size : Int) = 291 + 32 * (x0 : Int) by omega]
          simp
        have ho := or_256 x1 x2 b1 b2
        have hv : 256 * x1 + x2 < 65536 := by omega
        have hR2 : R = if 2 ^ x0 ≤ 256 * x1 + x2 then (0, 3) else (((256 * x1 + x2 : Nat) : Int), 0) := by
          rw [hR]
          by_cases hq : 2 ^ x0 ≤ 256 * x1 + x2
          · rw [if_pos (.inr (.inr (.inr hq))), if_pos hq]
          · rw [if_neg (by omega), if_neg hq]
        generalize 256 * x1 + x2 = v at ho hv hR2
        have HR := Lib.hid hR2
        clear hR hR2
        go_wp2_with fail
        go_big_quiet (fail)
        have h5 : x0 = 0 ∨ x0 = 1 ∨ x0 = 2 ∨ x0 = 3 ∨ x0 = 4 := by omega
        by_cases hq : 2 ^ x0 ≤ v
        · have hr : R = (0, 3) := by rw [HR.out, if_pos hq]
          have HRn := Lib.hid hr
          clear hr HR
          rcases h5 with rfl | rfl | rfl | rfl | rfl <;> (
            simp only [Nat.reducePow] at hq
            have hq2 : (v : Int) ≥ _ := Int.ofNat_le.2 hq
            go_wp2_with fail
            go_ret2
            rw [HRn.out]
            exact ⟨rfl, ⟨rfl, rfl, rfl, Nat.le_refl _, fun _ _ => rfl⟩⟩)
        · have hr : R = ((v : Int), 0) := by rw [HR.out, if_neg hq]
          have HRn := Lib.hid hr
          clear hr HR
          rcases h5 with rfl | rfl | rfl | rfl | rfl <;> (
            simp only [Nat.reducePow, Nat.not_le] at hq
            have hq2 : (v : Int) < _ := Int.ofNat_lt.2 hq
            go_wp2_with fail
            go_ret2
            rw [HRn.out]
            exact ⟨rfl, ⟨rfl, rfl, rfl, Nat.le_refl _, fun _ _ => rfl⟩⟩)
set_option maxRecDepth 100000 in
set_option maxHeartbeats 1000000 in
theorem rknumber_any (sig : ByteArray) (w : World) :
    Calls Tryz.prog 182 #[.string sig] w fun e w' => e = .returned (.tuple #[.int .i64 (numK sig).1, .int .i64 (numK sig).2]) ∧ Below w.heap.size w w' := by
  obtain ⟨R, hR⟩ : ∃ R, R = numK sig := ⟨_, rfl⟩
  rw [← hR]
  unfold numK at hR
  go_enter Tryz.func182, Tryz.ntmps182
  by_cases h1 : sig.size < 291
  · rw [if_pos (.inl h1)] at hR
    have h2 : (sig.size : Int) < 291 := by omega
    go_wp2_with fail
    go_ret2
    try rw [hR]
    exact ⟨rfl, Below.refl _ _⟩
  · have h2 : ¬ ((sig.size : Int) < 291) := by omega
    have i0 := idx_at sig 0 (by omega)
    have i1 := idx_at sig 1 (by omega)
    have i2 := idx_at sig 2 (by omega)
    rw [show ((0 : Nat) : Int) = 0 from rfl] at i0
    rw [show ((1 : Nat) : Int) = 1 from rfl] at i1
    rw [show ((2 : Nat) : Int) = 2 from rfl] at i2
    have b0 := byN_lt sig 0
    have b1 := byN_lt sig 1
    have b2 := byN_lt sig 2
    generalize byN sig 0 = x0 at *
    generalize byN sig 1 = x1 at *
    generalize byN sig 2 = x2 at *
    by_cases h3 : 4 < x0
    · rw [if_pos (.inr (.inl h3))] at hR
      have h4 : (4 : Int) < x0 := by omega
      go_wp2_with fail
      go_ret2
      try rw [hR]
      exact ⟨rfl, Below.refl _ _⟩
    · have h4 : ¬ ((4 : Int) < x0) := by omega
      by_cases h5 : sig.size ≠ 291 + 32 * x0
      · rw [if_pos (.inr (.inr (.inl h5)))] at hR
        have h7 : ((sig.size : Int) != 291 + 32 * (x0 : Int)) = true := bne_iff_ne.2 (by omega)
        go_wp2_with fail
        go_ret2
        try rw [hR]
        exact ⟨rfl, Below.refl _ _⟩
      · have h7 : ((sig.size : Int) != 291 + 32 * (x0 : Int)) = false := by
          rw [show (sig.size : Int) = 291 + 32 * (x0 : Int) by omega]
          simp
        have ho : (x1 : Int) * 256 + (x2 : Int) = ((256 * x1 + x2 : Nat) : Int) := by omega
        have hv : 256 * x1 + x2 < 65536 := by omega
        have hR2 : R = if 2 ^ x0 ≤ 256 * x1 + x2 then (0, 3) else (((256 * x1 + x2 : Nat) : Int), 0) := by
          rw [hR]
          by_cases hq : 2 ^ x0 ≤ 256 * x1 + x2
          · rw [if_pos (.inr (.inr (.inr hq))), if_pos hq]
          · rw [if_neg (by omega), if_neg hq]
        generalize 256 * x1 + x2 = v at ho hv hR2
        have HR := Lib.hid hR2
        clear hR hR2
        go_wp2_with fail
        go_big_quiet (fail)
        have h5 : x0 = 0 ∨ x0 = 1 ∨ x0 = 2 ∨ x0 = 3 ∨ x0 = 4 := by omega
        by_cases hq : 2 ^ x0 ≤ v
        · have hr : R = (0, 3) := by rw [HR.out, if_pos hq]
          have HRn := Lib.hid hr
          clear hr HR
          rcases h5 with rfl | rfl | rfl | rfl | rfl <;> (
            simp only [Nat.reducePow] at hq
            have hq2 : (v : Int) ≥ _ := Int.ofNat_le.2 hq
            go_wp2_with fail
            go_ret2
            rw [HRn.out]
            exact ⟨rfl, ⟨rfl, rfl, rfl, Nat.le_refl _, fun _ _ => rfl⟩⟩)
        · have hr : R = ((v : Int), 0) := by rw [HR.out, if_neg hq]
          have HRn := Lib.hid hr
          clear hr HR
          rcases h5 with rfl | rfl | rfl | rfl | rfl <;> (
            simp only [Nat.reducePow, Nat.not_le] at hq
            have hq2 : (v : Int) < _ := Int.ofNat_lt.2 hq
            go_wp2_with fail
            go_ret2
            rw [HRn.out]
            exact ⟨rfl, ⟨rfl, rfl, rfl, Nat.le_refl _, fun _ _ => rfl⟩⟩)

theorem tag_two (x : Int) (hx : 0 ≤ x ∧ x < 256) (a b : ByteArray) (t : TypeId) (ht : a.size + b.size ≤ 70368744100000) (w : World) :
    Calls Tryz.prog 180 #[.int .u8 x, .slice (some ⟨w.heap.size, 0, none⟩) 2 2] (w.alloc (.cells #[.string a, .string b] t)) fun e w' => e = .returned (.string (tagB x [a, b])) ∧ Below w.heap.size w w' := by
  refine (tag_any x hx _ 2 2 (psL [a, b]) _ (strs_row #[.string a, .string b] t 2 (psL [a, b]) w (row2 _ _)) (by decide) (by rw [tagN_sz2]; omega)).mono ?_
  rintro e w1 ⟨rfl, hb⟩
  exact ⟨rfl, ((Below.refl _ _).alloc (Nat.le_refl _) _).trans (hb.mono (by simp))⟩
theorem rtag_two (x : Int) (hx : 0 ≤ x ∧ x < 256) (a b : ByteArray) (t : TypeId) (ht : a.size + b.size ≤ 70368744100000) (w : World) :
    Calls Tryz.prog 64 #[.int .u8 x, .slice (some ⟨w.heap.size, 0, none⟩) 2 2] (w.alloc (.cells #[.string a, .string b] t)) fun e w' => e = .returned (.string (tagB x [a, b])) ∧ Below w.heap.size w w' := by
  refine (reftag_any x hx _ 2 2 (psL [a, b]) _ (strs_row #[.string a, .string b] t 2 (psL [a, b]) w (row2 _ _)) (by decide) (by rw [tagN_sz2]; omega)).mono ?_
  rintro e w1 ⟨rfl, hb⟩
  exact ⟨rfl, ((Below.refl _ _).alloc (Nat.le_refl _) _).trans (hb.mono (by simp))⟩

set_option maxRecDepth 100000 in
set_option maxHeartbeats 1000000 in
theorem named_any (n : Int) (top : ByteArray) (hn : 0 ≤ n ∧ n < 256) (ht : top.size ≤ 1000000) (w : World) : Calls Tryz.prog 181 #[.int .i64 n, .string top] w fun e w' => e = .returned (.string (tagB 38 [oneB n, top])) ∧ Below w.heap.size w w' := by
  go_enter Tryz.func181, Tryz.ntmps181
  go_wp2_with fail
  rw [run_str (own_new _ (oneB n) 1 w (by rw [strCells_one, show n % 256 = n by omega]) (oneB_size _) (by decide))]
  go_wp2_with fail
  have hB : Below w.heap.size w (w.alloc (.cells #[.int .u8 n] 5)) := (Below.refl _ _).alloc (Nat.le_refl _) _
  have h1 : w.heap.size + 1 = (w.alloc (.cells #[.int .u8 n] 5)).heap.size := (size_alloc _ _).symm
  rw [h1]
  generalize w.alloc (.cells #[.int .u8 n] 5) = w1 at hB ⊢
  have HB := Lib.hid hB
  clear hB h1
  refine (tag_two 38 (by decide) (oneB n) top _ (by rw [oneB_size]; omega) w1).mono ?_
  rintro e w2 ⟨rfl, hb2⟩
  have HB2 := Lib.hid (HB.out.trans (hb2.mono HB.out.size))
  clear hb2
  go_wp2_with fail
  go_ret
  exact ⟨rfl, HB2.out⟩
set_option maxRecDepth 100000 in
set_option maxHeartbeats 1000000 in
theorem rid_any (n : Int) (top : ByteArray) (hn : 0 ≤ n ∧ n < 256) (ht : top.size ≤ 1000000) (w : World) : Calls Tryz.prog 65 #[.int .i64 n, .string top] w fun e w' => e = .returned (.string (tagB 38 [oneB n, top])) ∧ Below w.heap.size w w' := by
  go_enter Tryz.func65, Tryz.ntmps65
  go_wp2_with fail
  rw [run_str (own_new _ (oneB n) 1 w (by rw [strCells_one, show n % 256 = n by omega]) (oneB_size _) (by decide))]
  go_wp2_with fail
  have hB : Below w.heap.size w (w.alloc (.cells #[.int .u8 n] 5)) := (Below.refl _ _).alloc (Nat.le_refl _) _
  have h1 : w.heap.size + 1 = (w.alloc (.cells #[.int .u8 n] 5)).heap.size := (size_alloc _ _).symm
  rw [h1]
  generalize w.alloc (.cells #[.int .u8 n] 5) = w1 at hB ⊢
  have HB := Lib.hid hB
  clear hB h1
  refine (rtag_two 38 (by decide) (oneB n) top _ (by rw [oneB_size]; omega) w1).mono ?_
  rintro e w2 ⟨rfl, hb2⟩
  have HB2 := Lib.hid (HB.out.trans (hb2.mono HB.out.size))
  clear hb2
  go_wp2_with fail
  go_ret
  exact ⟨rfl, HB2.out⟩

theorem and_1 (n : Nat) (hn : n < 65536) : bits BinOp.and IntKind.i64 (n : Int) 1 = ((n % 2 : Nat) : Int) := by
  show IntKind.i64.wrap ((BitVec.ofInt 64 ((n : Nat) : Int) &&& BitVec.ofInt 64 ((1 : Nat) : Int)).toNat : Int) = _
  rw [BitVec.toNat_and, ofInt_u64 _ (by omega), ofInt_u64 _ (by omega), Nat.and_one_is_mod]
  exact wrap_i64_small _ (by omega)
theorem climb_size (sig : ByteArray) (n : Nat) (x : ByteArray) (hx : x.size = 32) : ∀ j, (climbN sig n x j).size = 32
  | 0 => hx
  | j + 1 => by
    unfold climbN
    split <;> exact tagB_size _ _
theorem emp_toL : ByteArray.toList ⟨#[]⟩ = [] := by rw [ByteArray.toList_eq]
theorem nemp {x : ByteArray} (h : x.size ≠ 0) : (x.toList == ByteArray.toList ⟨#[]⟩) = false ∧ x.toList.isEmpty = false := by
  have hx : ¬ x = ⟨#[]⟩ := fun e => h (by rw [e]; rfl)
  have h2 := toList_eqbV x ⟨#[]⟩
  rw [decide_eq_false hx] at h2
  refine ⟨h2, ?_⟩
  cases hl : x.toList with
  | nil => rw [hl, emp_toL] at h2; exact absurd h2 (by decide)
  | cons a l => rfl
theorem ext_ext (s : ByteArray) (a b c d e f : Nat) (h1 : a + c = e) (h2 : a + d = f) (h3 : f ≤ b) : (s.extract a b).extract c d = s.extract e f := by
  subst h1 h2
  rw [ByteArray.extract_extract, Nat.min_eq_left h3]
def strLen (v : Value) : Nat := match v with | .string s => s.size | _ => 0
def VeRel (sig : ByteArray) (N : Nat) (x0 : ByteArray) (H : Nat) (w : World) (n nd pa : Value) (wr : World) : Prop :=
  ∃ j : Nat, j ≤ H ∧ n = .int .i64 (N / 2 ^ j : Nat) ∧ nd = .string (climbN sig N x0 j) ∧ pa = .string (sig.extract (291 + 32 * j) (291 + 32 * H)) ∧ Below w.heap.size w wr

set_option maxRecDepth 100000 in
set_option maxHeartbeats 1000000 in
theorem verify_any (want text sig : ByteArray) (ht : text.size ≤ 100000000) (w : World) :
    Calls Tryz.prog 152 #[.string want, .string text, .string sig] w fun e w' => e = .returned (.int .i64 (verP want text sig)) ∧ Below w.heap.size w w' := by
  obtain ⟨R, hR⟩ : ∃ R, R = verP want text sig := ⟨_, rfl⟩
  rw [← hR]
  have hK := knumber_any sig
  have hN : (numK sig).2 = 0 → sig.size = 291 + 32 * byN sig 0 ∧ byN sig 0 ≤ 4 ∧ ∃ v : Nat, v < 65536 ∧ (numK sig).1 = v := by
    unfold numK
    intro h
    split at h
    · exact absurd h (by decide)
    · rename_i hc
      have b1 := byN_lt sig 1
      have b2 := byN_lt sig 2
      rw [if_neg hc]
      exact ⟨by omega, by omega, _, by omega, rfl⟩
  unfold verP at hR
  generalize numK sig = q at hR hK hN
  have HK := Lib.hid hK
  have HN := Lib.hid hN
  have HR := Lib.hid hR
  clear hK hN hR
  go_enter Tryz.func152, Tryz.ntmps152
  go_wp2_with fail
  refine (HK.out w).mono ?_
  rintro e w1 ⟨rfl, hb1⟩
  have HB1 := Lib.hid hb1
  clear hb1 HK
  by_cases hq : q.2 = 0
  · obtain ⟨hz, hh, N, hN, hq1⟩ := HN.out hq
    have hr := HR.out
    rw [if_neg (by rw [hq]; decide), hq1, Int.toNat_natCast] at hr
    have i0 := idx_at sig 0 (by omega)
    rw [show ((0 : Nat) : Int) = 0 from rfl] at i0
    generalize byN sig 0 = H at *
    have hes : (sig.extract 3 291).size = 288 := by rw [ByteArray.size_extract]; omega
    have hrec := recover_any N text (sig.extract 3 291) ⟨by omega, by omega⟩ ht hes
    have hx32 : (recB N text (sig.extract 3 291)).size = 32 := tagB_size _ _
    generalize recB N text (sig.extract 3 291) = x0 at hr hrec hx32
    have hcs := climb_size sig N x0 hx32
    have HRR := Lib.hid hr
    have HRec := Lib.hid hrec
    have HCs := Lib.hid hcs
    have hsz2 : (sig.size : Int) = 291 + 32 * H := by omega
    obtain ⟨q1, q2⟩ := q
    have hq1 : q1 = (N : Int) := hq1
    have hq : q2 = 0 := hq
    subst hq1 hq
    clear hr hrec hcs HN HR
    go_wp2_with fail
    refine (HRec.out w1).mono ?_
    rintro e w2 ⟨rfl, hb2⟩
    have HB2 := Lib.hid (HB1.out.trans (hb2.mono HB1.out.size))
    clear hb2 HRec
    go_wp2_with fail
    go_loopw [7, 9, 12] (fun n nd pa wr => VeRel sig N x0 H w n nd pa wr) (fun _ _ pa _ => strLen pa)
    case atStart => exact ⟨0, Nat.zero_le _, by rw [Nat.pow_zero, Nat.div_one], rfl, rfl, HB2.out⟩
    case round =>
      obtain ⟨j, hj, rfl, rfl, rfl, hbel⟩ := hrel
      have HB := Lib.hid hbel
      clear hbel HB2
      have hpz : (sig.extract (291 + 32 * j) (291 + 32 * H)).size = 32 * (H - j) := by rw [ByteArray.size_extract]; omega
      by_cases hlt : j < H
      · obtain ⟨hne, hne2⟩ := nemp (x := sig.extract (291 + 32 * j) (291 + 32 * H)) (by omega)
        have hA : (sig.extract (291 + 32 * j) (291 + 32 * H)).extract 0 32 = sig.extract (291 + 32 * j) (323 + 32 * j) := ext_ext _ _ _ _ _ _ _ (by omega) (by omega) (by omega)
        have hC : (sig.extract (291 + 32 * j) (291 + 32 * H)).extract 32 (32 * (H - j)) = sig.extract (291 + 32 * (j + 1)) (291 + 32 * H) := ext_ext _ _ _ _ _ _ _ (by omega) (by omega) (by omega)
        have hbs : (sig.extract (291 + 32 * j) (323 + 32 * j)).size = 32 := by rw [ByteArray.size_extract]; omega
        have hcj := HCs.out j
        have hstep : climbN sig N x0 (j + 1) = if N / 2 ^ j % 2 = 0 then tagB 37 [climbN sig N x0 j, sig.extract (291 + 32 * j) (323 + 32 * j)] else tagB 37 [sig.extract (291 + 32 * j) (323 + 32 * j), climbN sig N x0 j] := rfl
        have hnx : N / 2 ^ (j + 1) = N / 2 ^ j / 2 := by rw [Nat.pow_succ, Nat.div_div_eq_div_mul]
        have hnl : N / 2 ^ j < 65536 := Nat.lt_of_le_of_lt (Nat.div_le_self _ _) hN
        have hand := and_1 (N / 2 ^ j) hnl
        have Hst := Lib.hid hstep
        have Hnx := Lib.hid hnx
        have hpz2 : (sig.extract (291 + 32 * (j + 1)) (291 + 32 * H)).size = 32 * (H - (j + 1)) := by rw [ByteArray.size_extract]; omega
        have Hpz2 := Lib.hid hpz2
        have hle1 : ¬ 32 * (H - j) < 32 := by omega
        generalize climbN sig N x0 j = nd at hcj Hst ⊢
        generalize hpx : sig.extract (291 + 32 * j) (291 + 32 * H) = px at hpz hne hne2 hA hC ⊢
        generalize sig.extract (291 + 32 * j) (323 + 32 * j) = bs at hA hbs Hst
        generalize N / 2 ^ j = nj at hand hnl Hst Hnx ⊢
        clear hstep hnx hpz2 hpx
        have hsp : (px.size : Int) = 32 * (H - j : Nat) := by omega
        have hsp1 : (32 : Int) ≤ px.size := by omega
        by_cases hm : nj % 2 = 0
        · have hm2 : ((nj % 2 : Nat) : Int) = 0 := by omega
          have hst := Hst.out
          rw [if_pos hm] at hst
          rw [hm2] at hand
          have Hst2 := Lib.hid hst
          clear hst Hst
          go_wp2_with fail
          refine (tag_two 37 (by decide) nd bs _ (by omega) wr).mono ?_
          rintro e w3 ⟨rfl, hb3⟩
          have HB3 := Lib.hid (HB.out.trans (hb3.mono HB.out.size))
          clear hb3
          go_wp2_with fail
          refine ⟨⟨j + 1, by omega, ?_, ?_, rfl, HB3.out⟩, ?_⟩
          · rw [Hnx.out]; congr 1
          · rw [Hst2.out]
          · show (sig.extract (291 + 32 * (j + 1)) (291 + 32 * H)).size < px.size
            rw [Hpz2.out]
            omega
        · have hm2 : ((nj % 2 : Nat) : Int) = 1 := by omega
          have hst := Hst.out
          rw [if_neg hm] at hst
          rw [hm2] at hand
          have Hst2 := Lib.hid hst
          clear hst Hst
          go_wp2_with fail
          refine (tag_two 37 (by decide) bs nd _ (by omega) wr).mono ?_
          rintro e w3 ⟨rfl, hb3⟩
          have HB3 := Lib.hid (HB.out.trans (hb3.mono HB.out.size))
          clear hb3
          go_wp2_with fail
          refine ⟨⟨j + 1, by omega, ?_, ?_, rfl, HB3.out⟩, ?_⟩
          · rw [Hnx.out]; congr 1
          · rw [Hst2.out]
          · show (sig.extract (291 + 32 * (j + 1)) (291 + 32 * H)).size < px.size
            rw [Hpz2.out]
            omega
      · obtain rfl : j = H := by omega
        have hpe : sig.extract (291 + 32 * j) (291 + 32 * j) = ⟨#[]⟩ := by
          apply ByteArray.ext
          apply Array.eq_empty_of_size_eq_zero
          rw [Nat.sub_self, Nat.mul_zero] at hpz
          exact hpz
        rw [hpe]
        have hem : (ByteArray.toList ⟨#[]⟩ == ByteArray.toList ⟨#[]⟩) = true := by rw [emp_toL]; rfl
        have hem2 : (ByteArray.toList ⟨#[]⟩).isEmpty = true := by rw [emp_toL]; rfl
        have hcj := HCs.out j
        have hnm := named_any j (climbN sig N x0 j) ⟨by omega, by omega⟩ (by rw [hcj]; decide)
        have hcmp := toList_eqbV (tagB 38 [oneB j, climbN sig N x0 j]) want
        have hrr := HRR.out
        generalize climbN sig N x0 j = nd at hnm hcj hcmp hrr ⊢
        generalize tagB 38 [oneB j, nd] = tg at hnm hcmp hrr
        have HNm := Lib.hid hnm
        clear hnm hpz hpe HRR
        by_cases hw : tg = want
        · rw [if_pos hw] at hrr
          rw [decide_eq_true hw] at hcmp
          have Hrr := Lib.hid hrr
          clear hrr hw
          go_wp2_with fail
          refine (HNm.out wr).mono ?_
          rintro e w3 ⟨rfl, hb3⟩
          have HB3 := Lib.hid (HB.out.trans (hb3.mono HB.out.size))
          clear hb3
          go_wp2_with fail
          go_ret
          exact ⟨by rw [Hrr.out]; rfl, HB3.out⟩
        · rw [if_neg hw] at hrr
          rw [decide_eq_false hw] at hcmp
          have Hrr := Lib.hid hrr
          clear hrr hw
          go_wp2_with fail
          refine (HNm.out wr).mono ?_
          rintro e w3 ⟨rfl, hb3⟩
          have HB3 := Lib.hid (HB.out.trans (hb3.mono HB.out.size))
          clear hb3
          go_wp2_with fail
          go_ret
          exact ⟨by rw [Hrr.out]; rfl, HB3.out⟩
  · have hr := HR.out
    rw [if_pos hq] at hr
    have hq0 : (q.2 != 0) = true := bne_iff_ne.2 hq
    have HR := Lib.hid hr
    clear hr
    go_wp2_with fail
    go_ret
    exact ⟨by rw [HR.out]; rfl, HB1.out⟩

def RvRel (sig : ByteArray) (N : Nat) (x0 : ByteArray) (H : Nat) (w : World) (nd h : Value) (wr : World) : Prop :=
  ∃ j : Nat, j ≤ H ∧ h = .int .i64 j ∧ nd = .string (climbN sig N x0 j) ∧ Below w.heap.size w wr

set_option maxRecDepth 100000 in
set_option maxHeartbeats 1000000 in
theorem rverify_any (want text sig : ByteArray) (ht : text.size ≤ 100000000) (w : World) :
    Calls Tryz.prog 153 #[.string want, .string text, .string sig] w fun e w' => e = .returned (.int .i64 (verP want text sig)) ∧ Below w.heap.size w w' := by
  obtain ⟨R, hR⟩ : ∃ R, R = verP want text sig := ⟨_, rfl⟩
  rw [← hR]
  have hK := rknumber_any sig
  have hN : (numK sig).2 = 0 → sig.size = 291 + 32 * byN sig 0 ∧ byN sig 0 ≤ 4 ∧ ∃ v : Nat, v < 65536 ∧ (numK sig).1 = v := by
    unfold numK
    intro h
    split at h
    · exact absurd h (by decide)
    · rename_i hc
      have b1 := byN_lt sig 1
      have b2 := byN_lt sig 2
      rw [if_neg hc]
      exact ⟨by omega, by omega, _, by omega, rfl⟩
  unfold verP at hR
  generalize numK sig = q at hR hK hN
  have HK := Lib.hid hK
  have HN := Lib.hid hN
  have HR := Lib.hid hR
  clear hK hN hR
  go_enter Tryz.func153, Tryz.ntmps153
  go_wp2_with fail
  refine (HK.out w).mono ?_
  rintro e w1 ⟨rfl, hb1⟩
  have HB1 := Lib.hid hb1
  clear hb1 HK
  by_cases hq : q.2 = 0
  · obtain ⟨hz, hh, N, hN, hq1⟩ := HN.out hq
    have hr := HR.out
    rw [if_neg (by rw [hq]; decide), hq1, Int.toNat_natCast] at hr
    have i0 := idx_at sig 0 (by omega)
    rw [show ((0 : Nat) : Int) = 0 from rfl] at i0
    generalize byN sig 0 = H at *
    have hes : (sig.extract 3 291).size = 288 := by rw [ByteArray.size_extract]; omega
    have hrec := rrecover_any N text (sig.extract 3 291) ⟨by omega, by omega⟩ ht hes
    have hx32 : (recB N text (sig.extract 3 291)).size = 32 := tagB_size _ _
    generalize recB N text (sig.extract 3 291) = x0 at hr hrec hx32
    have hcs := climb_size sig N x0 hx32
    have HRR := Lib.hid hr
    have HRec := Lib.hid hrec
    have HCs := Lib.hid hcs
    have hsz2 : (sig.size : Int) = 291 + 32 * H := by omega
    obtain ⟨q1, q2⟩ := q
    have hq1 : q1 = (N : Int) := hq1
    have hq : q2 = 0 := hq
    subst hq1 hq
    clear hr hrec hcs HN HR
    go_wp2_with fail
    refine (HRec.out w1).mono ?_
    rintro e w2 ⟨rfl, hb2⟩
    have HB2 := Lib.hid (HB1.out.trans (hb2.mono HB1.out.size))
    clear hb2 HRec
    go_wp2_with fail
    go_loopw [9, 11] (fun nd h wr => RvRel sig N x0 H w nd h wr) (fun _ h _ => H - (intOf h).toNat)
    case atStart => exact ⟨0, Nat.zero_le _, rfl, rfl, HB2.out⟩
    case round =>
      obtain ⟨j, hj, rfl, rfl, hbel⟩ := hrel
      have HB := Lib.hid hbel
      clear hbel HB2
      by_cases hlt : j < H
      · have hbs : (sig.extract (291 + 32 * j) (323 + 32 * j)).size = 32 := by rw [ByteArray.size_extract]; omega
        have hcj := HCs.out j
        have hstep : climbN sig N x0 (j + 1) = if N / 2 ^ j % 2 = 0 then tagB 37 [climbN sig N x0 j, sig.extract (291 + 32 * j) (323 + 32 * j)] else tagB 37 [sig.extract (291 + 32 * j) (323 + 32 * j), climbN sig N x0 j] := rfl
        have Hst := Lib.hid hstep
        have t1 : (291 + 32 * (j : Int)).toNat = 291 + 32 * j := by omega
        have t2 : (323 + 32 * (j : Int)).toNat = 323 + 32 * j := by omega
        have hlt2 : (j : Int) < H := by omega
        have hle : 323 + 32 * (j : Int) ≤ sig.size := by omega
        generalize climbN sig N x0 j = nd at hcj Hst ⊢
        generalize hbx : sig.extract (291 + 32 * j) (323 + 32 * j) = bs at hbs Hst
        clear hstep
        have hm1 : ((N : Int) / 2 ^ j).tmod 2 = ((N / 2 ^ j % 2 : Nat) : Int) := by
          rw [show (N : Int) / 2 ^ j = ((N / 2 ^ j : Nat) : Int) by push_cast; rfl]
          rfl
        by_cases hm : N / 2 ^ j % 2 = 0
        · have hst := Hst.out
          rw [if_pos hm] at hst
          rw [hm] at hm1
          have hm2 : (((N : Int) / 2 ^ j).tmod 2 == 0) = true := by rw [hm1]; rfl
          have Hst2 := Lib.hid hst
          clear hst Hst hm1
          go_wp2_with fail
          refine (rtag_two 37 (by decide) nd bs _ (by omega) wr).mono ?_
          rintro e w3 ⟨rfl, hb3⟩
          have HB3 := Lib.hid (HB.out.trans (hb3.mono HB.out.size))
          clear hb3
          go_wp2_with fail
          refine ⟨⟨j + 1, by omega, rfl, ?_, HB3.out⟩, ?_⟩
          · rw [Hst2.out]
          · show H - ((j : Int) + 1).toNat < H - (j : Int).toNat
            omega
        · have hst := Hst.out
          rw [if_neg hm] at hst
          have hm3 : N / 2 ^ j % 2 = 1 := by omega
          rw [hm3] at hm1
          have hm2 : (((N : Int) / 2 ^ j).tmod 2 == 0) = false := by rw [hm1]; rfl
          have Hst2 := Lib.hid hst
          clear hst Hst hm1 hm3
          go_wp2_with fail
          refine (rtag_two 37 (by decide) bs nd _ (by omega) wr).mono ?_
          rintro e w3 ⟨rfl, hb3⟩
          have HB3 := Lib.hid (HB.out.trans (hb3.mono HB.out.size))
          clear hb3
          go_wp2_with fail
          refine ⟨⟨j + 1, by omega, rfl, ?_, HB3.out⟩, ?_⟩
          · rw [Hst2.out]
          · show H - ((j : Int) + 1).toNat < H - (j : Int).toNat
            omega
      · obtain rfl : j = H := by omega
        have hcj := HCs.out j
        have hnm := rid_any j (climbN sig N x0 j) ⟨by omega, by omega⟩ (by rw [hcj]; decide)
        have hcmp := toList_eqbV (tagB 38 [oneB j, climbN sig N x0 j]) want
        have hrr := HRR.out
        generalize climbN sig N x0 j = nd at hnm hcj hcmp hrr ⊢
        generalize tagB 38 [oneB j, nd] = tg at hnm hcmp hrr
        have HNm := Lib.hid hnm
        clear hnm HRR
        by_cases hw : tg = want
        · rw [if_pos hw] at hrr
          rw [decide_eq_true hw] at hcmp
          have Hrr := Lib.hid hrr
          clear hrr hw
          go_wp2_with fail
          refine (HNm.out wr).mono ?_
          rintro e w3 ⟨rfl, hb3⟩
          have HB3 := Lib.hid (HB.out.trans (hb3.mono HB.out.size))
          clear hb3
          go_wp2_with fail
          go_ret
          exact ⟨by rw [Hrr.out]; rfl, HB3.out⟩
        · rw [if_neg hw] at hrr
          rw [decide_eq_false hw] at hcmp
          have Hrr := Lib.hid hrr
          clear hrr hw
          go_wp2_with fail
          refine (HNm.out wr).mono ?_
          rintro e w3 ⟨rfl, hb3⟩
          have HB3 := Lib.hid (HB.out.trans (hb3.mono HB.out.size))
          clear hb3
          go_wp2_with fail
          go_ret
          exact ⟨by rw [Hrr.out]; rfl, HB3.out⟩
  · have hr := HR.out
    rw [if_pos hq] at hr
    have hq0 : (q.2 != 0) = true := bne_iff_ne.2 hq
    have HR := Lib.hid hr
    clear hr
    go_wp2_with fail
    go_ret
    exact ⟨by rw [HR.out]; rfl, HB1.out⟩
end Go.Proofs.YtmejjphliaiamaaGreatDoor
