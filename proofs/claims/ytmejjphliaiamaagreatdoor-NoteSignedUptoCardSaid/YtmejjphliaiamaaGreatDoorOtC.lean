import Derived.StillTail
import Derived.Below
import Derived.Test.YtmejjphliaiamaaGreatDoorShaT
set_option linter.unusedVariables false
set_option linter.unusedSimpArgs false
namespace Go.Proofs.YtmejjphliaiamaaGreatDoor
open Go Go.RowKit Go.Lib

/-! A region that draws its order, whose head's operations may read, lay new blocks and call what lays new blocks: of each operation's value a FACT is kept (that stands while only new blocks come), proved once for each operation, whatever the order; behind the head a tail that comes in one order alone. -/
section
variable {P : Program} {ops : Array Oper} {md : Region.Mode}

def factUpon (P : Program) (w : World) (R : Value → World → Prop) : Result Next → Prop
  | .ok (.value u) w' => Below w.heap.size w w' ∧ R u w'
  | .ok (.enter f args) w' => w' = w ∧ Calls P f args w (fun e w'' => ∃ v, e = .returned v ∧ Below w.heap.size w w'' ∧ R v w'')
  | _ => False

/-- no operation of the head yields into this temporary. -/
def Region.dstFree (ops : Array Oper) (n t : Nat) : Bool := (List.range n).all fun i => match ops[i]? with | some o => o.dst != some t | none => true
def Region.waitsOn (md : Region.Mode) (o : Oper) (j : Nat) : Bool := o.after.any fun e => Region.binds md e && e.on == j

/-- the bool that an operation has yielded, seen through its temporary. -/
def evY (ops : Array Oper) (ev : Operand → Value) (g : Nat) : Option Bool :=
  match (ops[g]?).bind (·.dst) with
  | some d => (match ev (.tmp d) with | .bool b => some b | _ => none)
  | none => none
theorem evY_eq (ops : Array Oper) (a : Act) : yielded ops a.tmps = evY ops a.eval := by
  funext g
  unfold yielded evY
  cases (ops[g]?).bind (·.dst) with
  | none => rfl
  | some d =>
    show (match a.tmps[d]? with | some (.bool b) => some b | _ => none) = (match a.tmps.getD d undef with | .bool b => some b | _ => none)
    rw [Array.getD_eq_getD_getElem?]
    cases a.tmps[d]? with
    | none => rfl
    | some v => cases v <;> rfl
structure FInv (ops : Array Oper) (n : Nat) (w0 : World) (a0 : Act) (F : Nat → Value → World → Prop) (listed : Array Bool) (a : Act) (w : World) : Prop where
  below : Below w0.heap.size w0 w
  defers : a.defers = a0.defers
  size : a.tmps.size = a0.tmps.size
  same : ∀ t : Nat, Region.dstFree ops n t = true → a.tmps.getD t undef = a0.tmps.getD t undef
  facts : ∀ i o d, i < n → ops[i]? = some o → listed.getD i false = true → o.dst = some d → F i (a.tmps.getD d undef) w

def FStep (P : Program) (md : Region.Mode) (ops : Array Oper) (n : Nat) (w0 : World) (a0 : Act) (F : Nat → Value → World → Prop) (i : Nat) (o : Oper) : Prop :=
  ∀ (ev : Operand → Value) (w : World), Below w0.heap.size w0 w → (∀ v, ev (.const v) = v) → (∀ g, ev (.global g) = .pointer (some ⟨g, 0, none⟩)) → (∀ f, ev (.func f) = .func (.func f) #[] #[]) →
    (∀ t, Region.dstFree ops n t = true → ev (.tmp t) = a0.tmps.getD t undef) →
    (∀ j oj d, j < n → ops[j]? = some oj → Region.waitsOn md o j = true → oj.dst = some d → F j (ev (.tmp d)) w) → if Region.wanted o (evY ops ev) = true then factUpon P w (F i) ((execOp ev o).run P w) else F i undef w
def FAll (P : Program) (md : Region.Mode) (ops : Array Oper) (n : Nat) (w0 : World) (a0 : Act) (F : Nat → Value → World → Prop) : Nat → List Oper → Prop
  | _, [] => True
  | i, o :: l => FStep P md ops n w0 a0 F i o ∧ FAll P md ops n w0 a0 F (i + 1) l
theorem FAll.at {n : Nat} {w0 : World} {a0 : Act} {F : Nat → Value → World → Prop} : ∀ (l : List Oper) (k : Nat), FAll P md ops n w0 a0 F k l → ∀ i o, l[i]? = some o → FStep P md ops n w0 a0 F (k + i) o
  | [], _, _, i, o, h => by simp at h
  | x :: l, k, h, 0, o, ho => by
    have : x = o := by simpa using ho
    subst this
    exact h.1
  | x :: l, k, h, i + 1, o, ho => by
    have := FAll.at l (k + 1) h.2 i o (by simpa using ho)
    rwa [Nat.add_assoc, Nat.add_comm 1 i] at this

def Region.headOk (md : Region.Mode) (ops : Array Oper) (N n i : Nat) : Bool :=
  match ops[i]? with
  | none => false
  | some o => (match o.dst with | some d => decide (d < N) | none => false) && (o.after.all fun e => !Region.binds md e || decide (e.on < i)) &&
    ((List.range n).all fun j => i == j || match ops[j]? with | some oj => oj.dst != o.dst | none => true)
def Region.factsB (md : Region.Mode) (ops : Array Oper) (N n : Nat) : Bool :=
  ((List.range n).all fun i => Region.headOk md ops N n i) && decide (n ≤ ops.size) &&
    (decide (n = ops.size) || (Region.sinkB md ops n && Region.chainB md ops n)) &&
    Region.seqB md ops (ops.size - n) n ((List.range ops.size).map fun i => decide (i < n)).toArray

def unl (listed : Array Bool) (n : Nat) : Nat := (List.range n).countP fun i => !listed.getD i true
theorem countP_less (p q : Nat → Bool) (j : Nat) : ∀ n, j < n → p j = true → q j = false → (∀ i, i ≠ j → p i = q i) → (List.range n).countP p = (List.range n).countP q + 1 := by
  intro n
  induction n with
  | zero => intro h; omega
  | succ n ih =>
    intro hj hp hq hh
    rw [List.range_succ, List.countP_append, List.countP_append, List.countP_singleton, List.countP_singleton]
    by_cases e : j = n
    · subst e
      rw [hp, hq]
      have : ∀ m, m ≤ j → (List.range m).countP p = (List.range m).countP q := by
        intro m hm
        induction m with
        | zero => rfl
        | succ m im => rw [List.range_succ, List.countP_append, List.countP_append, List.countP_singleton, List.countP_singleton, im (by omega), hh m (by omega)]
      rw [this j (Nat.le_refl _)]
      simp
    · rw [ih (by omega) hp hq hh, hh n (Ne.symm e)]
      omega
theorem unl_set {listed : Array Bool} {n j : Nat} (hj : j < n) (hs : j < listed.size) (hu : listed.getD j true = false) : unl listed n = unl (listed.setIfInBounds j true) n + 1 := by
  refine countP_less _ _ j n hj (by rw [hu]; rfl) (by simp [hs]) (fun i hi => ?_)
  rw [getD_set_ne true (Ne.symm hi)]
theorem unl_zero {listed : Array Bool} : ∀ {n : Nat}, unl listed n = 0 → ∀ i, i < n → listed.getD i true = true := by
  intro n h i hi
  have := (List.countP_eq_zero.1 h) i (List.mem_range.2 hi)
  simpa using this
theorem unl_pos {listed : Array Bool} : ∀ {n f : Nat}, unl listed n = f + 1 → ∃ i, i < n ∧ listed.getD i true = false ∧ ∀ j, j < i → listed.getD j true = true := by
  intro n f h
  have h1 : ∃ i, i < n ∧ listed.getD i true = false := by
    apply Classical.byContradiction
    intro hc
    have : unl listed n = 0 := List.countP_eq_zero.2 fun i hi => by
      have hi := List.mem_range.1 hi
      cases hx : listed.getD i true with
      | true => simp
      | false => exact absurd ⟨i, hi, hx⟩ hc
    omega
  obtain ⟨i, hi, hx⟩ := h1
  have : ∀ i, i < n → listed.getD i true = false → ∃ i, i < n ∧ listed.getD i true = false ∧ ∀ j, j < i → listed.getD j true = true := by
    intro i
    induction i using Nat.strongRecOn with
    | _ i ih =>
      intro hi hx
      by_cases hj : ∃ j, j < i ∧ listed.getD j true = false
      · obtain ⟨j, h1, h2⟩ := hj
        exact ih j h1 (by omega) h2
      · refine ⟨i, hi, hx, fun j h1 => ?_⟩
        cases h2 : listed.getD j true with
        | true => rfl
        | false => exact absurd ⟨j, h1, h2⟩ hj
  exact this i hi hx

theorem Oper.wp_of_fact {o : Oper} {a : Act} {w : World} {K : Act → World → Prop} {Q : Exit → Act → World → Prop} {R : Value → World → Prop}
    (h : factUpon P w R ((execOp a.eval o).run P w)) (hK : ∀ v w', Below w.heap.size w w' → R v w' → K (a.put o.dst v) w') : o.wp P a w K Q := by
  unfold Oper.wp
  generalize (execOp a.eval o).run P w = r at *
  cases r with
  | ok n w' =>
    cases n with
    | value u => exact hK _ _ h.1 h.2
    | enter f args =>
      have h1 : w' = w := h.1
      have hc : Calls P f args w (fun e w'' => ∃ v, e = .returned v ∧ Below w.heap.size w w'' ∧ R v w'') := h.2
      rw [h1]
      exact hc.mono fun e w'' ⟨v, he, hb, hr⟩ => by subst he; exact hK _ _ hb hr
    | _ => exact h.elim
  | halt x w' => exact h.elim

theorem put_getD {a : Act} {d : Nat} {v : Value} (hd : d < a.tmps.size) (t : Nat) : (a.put (some d) v).tmps.getD t undef = if t = d then v else a.tmps.getD t undef := by
  unfold Act.put
  by_cases e : t = d
  · subst e; simp [hd]
  · simp only [if_neg e, Array.getD_eq_getD_getElem?, Array.getElem?_setIfInBounds_ne (Ne.symm e)]

theorem headF {n g N : Nat} {Q : Exit → Act → World → Prop} {w0 : World} {a0 : Act} {F : Nat → Value → World → Prop} (hok : ∀ i, i < n → Region.headOk md ops N n i = true) (hn : n ≤ ops.size) (hg : ops.size - n = g)
    (htl : n = ops.size ∨ (Region.sinkB md ops n = true ∧ Region.chainB md ops n = true)) (ha0 : a0.tmps.size = N)
    (hst : ∀ i v w w', F i v w → Below w.heap.size w w' → F i v w') (hstep : ∀ i o, i < n → ops[i]? = some o → FStep P md ops n w0 a0 F i o)
    (hend : ∀ listed a w, listed.size = ops.size → (∀ i, i < n → listed.getD i true = true) → (∀ t, n ≤ t → t < ops.size → listed.getD t true = false) → FInv ops n w0 a0 F listed a w → wpAny P md ops Q g listed a w) :
    ∀ (f : Nat) (listed : Array Bool) (a : Act) (w : World), HeadInv md ops n listed → unl listed n = f → FInv ops n w0 a0 F listed a w → wpAny P md ops Q (f + g) listed a w := by
  intro f
  induction f with
  | zero =>
    intro listed a w inv hu hI
    rw [Nat.zero_add]
    exact hend listed a w inv.size (unl_zero hu) inv.tail hI
  | succ f ih =>
    intro listed a w inv hu hI
    rw [Nat.add_right_comm]
    obtain ⟨i0, hi0, hx0, hlow⟩ := unl_pos hu
    have hr0 : i0 ∈ Region.ready md ops listed := by
      have h1 := hok i0 hi0
      unfold Region.headOk at h1
      split at h1
      · cases h1
      · rename_i o ho
        simp only [Bool.and_eq_true] at h1
        refine mem_ready.2 ⟨hx0, o, ho, fun e he hb => ?_⟩
        have h2 := (Array.all_eq_true_iff_forall_mem.1 h1.1.2) e he
        simp only [hb, Bool.not_true, Bool.false_or, decide_eq_true_eq] at h2
        have h3 := hlow e.on h2
        have h4 : e.on < listed.size := by rw [inv.size]; omega
        simp [h4] at h3 ⊢
        exact h3
    refine ⟨fun h0 => (by rw [h0] at hr0; cases hr0), fun j hj => ?_⟩
    obtain ⟨hjun, o, ho, hall⟩ := mem_ready.1 hj
    have hjsz : j < ops.size := (Array.getElem?_eq_some_iff.1 ho).1
    have hjn : j < n := by
      rcases htl with h | ⟨h1, h2⟩
      · omega
      · rcases Nat.lt_or_ge n ops.size with h3 | h3
        · exact Nat.lt_of_not_le fun hle => tail_waits h1 h2 h3 inv _ i0 rfl hi0 hx0 j hle hj
        · omega
    have h1 := hok j hjn
    unfold Region.headOk at h1
    rw [ho] at h1
    simp only [Bool.and_eq_true] at h1
    obtain ⟨⟨hdst, _⟩, hdis⟩ := h1
    cases hd : o.dst with
    | none => rw [hd] at hdst; cases hdst
    | some d =>
      rw [hd] at hdst hdis
      have hdN : d < N := by simpa using hdst
      have hds : d < a.tmps.size := by rw [hI.size, ha0]; exact hdN
      have hS := hstep j o hjn ho a.eval w hI.below (fun v => rfl) (fun g => rfl) (fun f => rfl) (fun t ht => hI.same t ht) (fun k ok dk hk hok' hwk hdk => by
        refine hI.facts k ok dk hk hok' ?_ hdk
        obtain ⟨e, he, hb⟩ := Array.any_eq_true'.1 hwk
        simp only [Bool.and_eq_true, beq_iff_eq] at hb
        have := hall e he hb.1
        rwa [hb.2] at this)
      have hK : ∀ v w', Below w.heap.size w w' → F j v w' → wpAny P md ops Q (f + g) (listed.setIfInBounds j true) (a.put o.dst v) w' := by
        intro v w' hb hr
        rw [hd]
        refine ih _ _ _ (inv.set hj hjn) ?_ ⟨hI.below.trans (hb.mono hI.below.size), ?_, ?_, fun t ht => ?_, fun k ok dk hk hok' hl hdk => ?_⟩
        · have := unl_set (n := n) hjn (by rw [inv.size]; exact hjsz) hjun
          omega
        · exact hI.defers
        · show (a.tmps.setIfInBounds d v).size = _
          rw [Array.size_setIfInBounds]; exact hI.size
        · rw [put_getD hds, if_neg]
          · exact hI.same t ht
          · intro e
            have h2 := (List.all_eq_true.1 ht) j (List.mem_range.2 hjn)
            rw [ho] at h2
            simp [hd, e] at h2
        · rw [put_getD hds]
          by_cases e : k = j
          · subst e
            have : o = ok := Option.some.inj (ho.symm.trans hok')
            subst this
            rw [hd] at hdk
            rw [if_pos (Option.some.inj hdk).symm]
            exact hr
          · rw [if_neg]
            · rw [getD_set_ne false (Ne.symm e)] at hl
              exact hst _ _ _ _ (hI.facts k ok dk hk hok' hl hdk) hb
            · intro e2
              have h2 := (List.all_eq_true.1 hdis) k (List.mem_range.2 hk)
              rw [hok'] at h2
              simp [Ne.symm e, hdk, e2] at h2
      unfold wpOp
      simp only [ho]
      rw [evY_eq]
      by_cases hw : Region.wanted o (evY ops a.eval) = true
      · rw [if_pos hw] at hS ⊢
        exact .inl (Oper.wp_of_fact (R := F j) hS hK)
      · rw [if_neg hw] at hS ⊢
        exact hK undef w (Below.refl _ _) hS

theorem wp_region_facts {id : Nat} {Q : Exit → Act → World → Prop} {a : Act} {w : World} {l : List Oper} (n N : Nat) (F : Nat → Value → World → Prop) (hm : P.follows .mixedOrders = true)
    (hB : Region.factsB .any l.toArray N n = true) (ha : a.tmps.size = N) (hst : ∀ i v w w', F i v w → Below w.heap.size w w' → F i v w')
    (hstep : FAll P .any l.toArray n w a F 0 (l.take n))
    (htail : ∀ a' w', FInv l.toArray n w a F ((List.range l.length).map fun i => decide (i < n)).toArray a' w' → wpList P l.toArray Q (l.drop n) a' w') : (Code.region id l.toArray true).wp P Q a w := by
  simp only [Region.factsB, Bool.and_eq_true, decide_eq_true_eq, Bool.or_eq_true] at hB
  obtain ⟨⟨⟨hok, hn⟩, htl⟩, hseq⟩ := hB
  have hdl : (l.drop n).length = l.toArray.size - n := by simp
  have hI : FInv l.toArray n w a F (Array.replicate l.toArray.size false) a { w with drawn := w.drawn + 1 } :=
    ⟨⟨rfl, rfl, rfl, Nat.le_refl _, fun _ _ => rfl⟩, rfl, rfl, fun _ _ => rfl, fun i o d _ _ hl => (by rw [getD_replicate_false] at hl; cases hl)⟩
  have A := headF (P := P) (md := .any) (ops := l.toArray) (Q := Q) (g := l.toArray.size - n) (N := N) (fun i hi => (List.all_eq_true.1 hok) i (List.mem_range.2 hi)) hn rfl htl ha hst
    (fun i o hi ho => by
      have := FAll.at _ _ hstep i o (by rw [List.getElem?_take, if_pos hi]; simpa using ho)
      rwa [Nat.zero_add] at this)
    (fun listed a' w' hsz h1 h2 hI' => by
      have he : listed = ((List.range l.toArray.size).map fun i => decide (i < n)).toArray := by
        apply Array.ext_getElem?
        intro k
        rcases Nat.lt_or_ge k l.toArray.size with hk | hk
        · have hk' : k < listed.size := by omega
          rw [Array.getElem?_eq_getElem hk']
          have hk2 : k < l.length := by simpa using hk
          simp only [List.getElem?_toArray, List.getElem?_map, List.getElem?_range hk, Option.map_some]
          congr 1
          rcases Nat.lt_or_ge k n with h3 | h3
          · have := h1 k h3
            simp [hk'] at this
            rw [this]; simp [h3]
          · have := h2 k h3 hk
            simp [hk'] at this
            rw [this]; simp [h3]
        · rw [Array.getElem?_eq_none (by omega), Array.getElem?_eq_none (by simpa using hk)]
      subst he
      have := wpAny_of_seq (md := .any) (Q' := Q) (l.drop n) n _ a' w' (fun j => by simp [List.getElem?_drop]) (by rw [hdl]; exact hseq) (htail a' w' (by simpa using hI'))
      rwa [hdl] at this)
    n (Array.replicate l.toArray.size false) a { w with drawn := w.drawn + 1 }
    ⟨by simp, fun j oj _ hl => (by rw [getD_replicate_false] at hl; cases hl), fun t _ ht => getD_in (by simpa using ht) (getD_replicate_false _ _)⟩
    (by
      unfold unl
      have : ∀ m, m ≤ n → (List.range m).countP (fun i => !(Array.replicate l.toArray.size false).getD i true) = m := by
        intro m hm
        induction m with
        | zero => rfl
        | succ m im =>
          rw [List.range_succ, List.countP_append, im (by omega), List.countP_singleton, getD_in (by simpa using (show m < l.toArray.size by omega)) (getD_replicate_false _ _)]
          rfl
      exact this n (Nat.le_refl _)) hI
  have hsum : n + (l.toArray.size - n) = l.toArray.size := by omega
  rw [hsum] at A
  exact wp_region_any hm A

theorem act_list {a : Act} (N : Nat) (L : List Nat) (hL : L = List.range N) (h : a.tmps.size = N) : a = ⟨(L.map fun t => a.tmps.getD t undef).toArray, a.defers⟩ := by
  subst hL
  obtain ⟨t, d⟩ := a
  congr 1
  apply Array.ext_getElem?
  intro k
  have h : t.size = N := h
  rcases Nat.lt_or_ge k N with hk | hk
  · simp [List.getElem?_range hk, show k < t.size by omega]
  · rw [Array.getElem?_eq_none (by omega), Array.getElem?_eq_none (by simpa using hk)]
end

theorem strCells_num2 (x : Int) : strCells (numB x 2) = [.int .u8 (x / 256 % 256), .int .u8 (x % 256)] := by
  simp [numB, numTop, strCells_append, strCells_one]
  rfl
theorem strCells_length (s : ByteArray) : (strCells s).length = s.size := by
  unfold strCells
  rw [List.length_map, Array.length_toList]
  rfl
theorem own_new (cs : Array Value) (s : ByteArray) (k : Nat) (w : World) (hc : cs.toList = strCells s) (hk : s.size = k) (hs : k ≤ maxLen) : OwnB (w.alloc (.cells cs 5)) w.heap.size (.slice (some ⟨w.heap.size, 0, none⟩) k k) s := by
  subst hk
  have h1 : cs.size = s.size := by rw [← Array.length_toList, hc, strCells_length]
  refine ⟨by rw [strCells_length, Nat.mul_one], .inr ⟨w.heap.size, s.size, cs, rfl, Nat.le_refl _, heap_alloc_last _ _, Nat.le_refl _, hs, by rw [h1, Nat.mul_one], ?_⟩⟩
  rw [hc, Nat.mul_one, ← strCells_length s, List.take_length]

set_option maxRecDepth 100000 in
set_option maxHeartbeats 1000000 in
theorem two_any (n : Int) (hn : 0 ≤ n ∧ n < 65536) (w : World) : Calls Tryz.prog 229 #[.int .i64 n] w fun e w' => e = .returned (.string (numB n 2)) ∧ Below w.heap.size w w' := by
  go_enter Tryz.func229, Tryz.ntmps229
  go_wp2_with fail
  rw [run_str (own_new _ (numB n 2) 2 w (by rw [strCells_num2, show n / 256 % 256 = n / 256 by omega]) (shanum_size _ _) (by decide))]
  go_wp2_with fail
  go_ret
  exact ⟨rfl, (Below.refl _ _).alloc (Nat.le_refl _) _⟩

set_option maxRecDepth 100000 in
set_option maxHeartbeats 1000000 in
theorem one_any (n : Int) (hn : 0 ≤ n ∧ n < 256) (w : World) : Calls Tryz.prog 230 #[.int .i64 n] w fun e w' => e = .returned (.string (oneB n)) ∧ Below w.heap.size w w' := by
  go_enter Tryz.func230, Tryz.ntmps230
  go_wp2_with fail
  rw [run_str (own_new _ (oneB n) 1 w (by rw [strCells_one, show n % 256 = n by omega]) (oneB_size _) (by decide))]
  go_wp2_with fail
  go_ret
  exact ⟨rfl, (Below.refl _ _).alloc (Nat.le_refl _) _⟩

set_option maxRecDepth 100000 in
set_option maxHeartbeats 1000000 in
theorem onumber_any (x : Int) (n : Nat) (hx : 0 ≤ x ∧ x < 18446744073709551616) (hn : n ≤ 8) (w : World) : Calls Tryz.prog 67 #[.int .u64 x, .int .i64 n] w fun e w' => e = .returned (.string (numB x n)) ∧ Below w.heap.size w w' := by
  go_enter Tryz.func67, Tryz.ntmps67
  go_wp2_with fail
  refine (number_any w.heap.size _ ⟨#[]⟩ x n w (ownB_nil _ _) hx hn (Nat.le_refl _) (by decide)).mono ?_
  rintro e w2 ⟨v2, rfl, ho, hk⟩
  rw [show (⟨#[]⟩ : ByteArray) ++ numB x n = numB x n from ByteArray.empty_append] at ho
  have HO := Lib.hid ho
  have HB := Lib.hid (hk.toBelow (Nat.le_refl _))
  clear ho hk
  go_wp2_with fail
  rw [run_str HO.out]
  go_wp2_with fail
  go_ret
  exact ⟨rfl, HB.out⟩

/-! the facts that a region's values bear here: a known value, or bytes of one's own -/
inductive Ft where
  | v (x : Value)
  | own (s : ByteArray)
  | sl (n : Nat)
def Ft.holds (B : Nat) : Ft → Value → World → Prop
  | .v x, u, _ => u = x
  | .own s, u, w => OwnB w B u s
  | .sl n, u, _ => ∃ ad c, u = .slice ad n c
def FtF (B : Nat) (l : List Ft) : Nat → Value → World → Prop := fun i u w => ((l[i]?).getD (.v undef)).holds B u w
theorem FtF.stable (B : Nat) (l : List Ft) : ∀ i v w w', FtF B l i v w → Below w.heap.size w w' → FtF B l i v w' := by
  intro i v w w' h hb
  unfold FtF at *
  generalize (l[i]?).getD (.v undef) = f at *
  cases f with
  | v x => exact h
  | own s => exact OwnB.below h hb
  | sl n => exact h
section
variable {P : Program} {md : Region.Mode} {ops : Array Oper} {n : Nat} {w0 : World} {a0 : Act} {F : Nat → Value → World → Prop} {i : Nat} {o : Oper}
theorem wanted_of {y : Nat → Option Bool} (g : Nat) (b : Bool) (hg : o.guard = some (g, b)) (hy : y g = some b) : Region.wanted o y = true := by
  unfold Region.wanted
  rw [hg]
  simp [hy]
theorem unwanted_of {y : Nat → Option Bool} (g : Nat) (b : Bool) (hg : o.guard = some (g, b)) (hy : y g = some (!b)) : Region.wanted o y = false := by
  unfold Region.wanted
  rw [hg]
  cases b <;> simp [hy]
theorem evY_of {ev : Operand → Value} {g : Nat} {d : Nat} {b : Bool} (hd : (ops[g]?).bind (·.dst) = some d) (hv : ev (.tmp d) = .bool b) : evY ops ev g = some b := by
  unfold evY
  rw [hd]
  simp only [hv]
theorem fstep_not (hw : ∀ (ev : Operand → Value) (w : World), (∀ j oj d, j < n → ops[j]? = some oj → Region.waitsOn md o j = true → oj.dst = some d → F j (ev (.tmp d)) w) → Region.wanted o (evY ops ev) = false) (h : ∀ w, F i undef w) : FStep P md ops n w0 a0 F i o := by
  intro ev w hb hc hg hf hs hp
  rw [if_neg (by rw [hw ev w hp]; decide)]
  exact h w
/-- whatever reads alone: its run is shown as one equation. -/
theorem fstep_any (hw : ∀ (ev : Operand → Value) (w : World), (∀ j oj d, j < n → ops[j]? = some oj → Region.waitsOn md o j = true → oj.dst = some d → F j (ev (.tmp d)) w) → Region.wanted o (evY ops ev) = true) (h : ∀ (ev : Operand → Value) (w : World), Below w0.heap.size w0 w → (∀ v, ev (.const v) = v) → (∀ t, Region.dstFree ops n t = true → ev (.tmp t) = a0.tmps.getD t undef) →
    (∀ j oj d, j < n → ops[j]? = some oj → Region.waitsOn md o j = true → oj.dst = some d → F j (ev (.tmp d)) w) → ∃ u, (execOp ev o).run P w = .ok (.value u) w ∧ F i u w) : FStep P md ops n w0 a0 F i o := by
  intro ev w hb hc hg hf hs hp
  rw [if_pos (hw ev w hp)]
  obtain ⟨u, hu, hF⟩ := h ev w hb hc hs hp
  rw [hu]
  exact ⟨Below.refl _ _, hF⟩
theorem fstep_move (x : Operand) (ho : o.op = .move x) (hw : ∀ (ev : Operand → Value) (w : World), (∀ j oj d, j < n → ops[j]? = some oj → Region.waitsOn md o j = true → oj.dst = some d → F j (ev (.tmp d)) w) → Region.wanted o (evY ops ev) = true) (h : ∀ (ev : Operand → Value) (w : World), (∀ v, ev (.const v) = v) → (∀ t, Region.dstFree ops n t = true → ev (.tmp t) = a0.tmps.getD t undef) →
    (∀ j oj d, j < n → ops[j]? = some oj → Region.waitsOn md o j = true → oj.dst = some d → F j (ev (.tmp d)) w) → F i (ev x) w) : FStep P md ops n w0 a0 F i o := by
  intro ev w hb hc hg hf hs hp
  rw [if_pos (hw ev w hp)]
  have : (execOp ev o).run P w = .ok (.value (ev x)) w := by unfold execOp; rw [ho]; rfl
  rw [this]
  exact ⟨Below.refl _ _, h ev w hc hs hp⟩
theorem fstep_conv (s t : TypeId) (x : Operand) (ho : o.op = .convert s t x) (hw : ∀ (ev : Operand → Value) (w : World), (∀ j oj d, j < n → ops[j]? = some oj → Region.waitsOn md o j = true → oj.dst = some d → F j (ev (.tmp d)) w) → Region.wanted o (evY ops ev) = true) (h : ∀ (ev : Operand → Value) (w : World), Below w0.heap.size w0 w → (∀ v, ev (.const v) = v) → (∀ t, Region.dstFree ops n t = true → ev (.tmp t) = a0.tmps.getD t undef) →
    (∀ j oj d, j < n → ops[j]? = some oj → Region.waitsOn md o j = true → oj.dst = some d → F j (ev (.tmp d)) w) → ∃ u, (convert s t (ev x)).run P w = .ok u w ∧ F i u w) : FStep P md ops n w0 a0 F i o := by
  intro ev w hb hc hg hf hs hp
  rw [if_pos (hw ev w hp)]
  obtain ⟨u, hu, hF⟩ := h ev w hb hc hs hp
  have : (execOp ev o).run P w = .ok (.value u) w := by
    simp only [execOp, ho, Sem.run_bind, List.map_toArray, List.map_cons, List.map_nil, hu, Result.andThen_ok, Sem.run_pure]
  rw [this]
  exact ⟨Below.refl _ _, hF⟩
theorem fstep_build (t : TypeId) (len : Nat) (x : Operand) (k : Nat) (ho : o.op = .buildSlice t len #[(k, x)]) (hw : ∀ (ev : Operand → Value) (w : World), (∀ j oj d, j < n → ops[j]? = some oj → Region.waitsOn md o j = true → oj.dst = some d → F j (ev (.tmp d)) w) → Region.wanted o (evY ops ev) = true) (h : ∀ (ev : Operand → Value) (w : World), Below w0.heap.size w0 w → (∀ v, ev (.const v) = v) → (∀ t, Region.dstFree ops n t = true → ev (.tmp t) = a0.tmps.getD t undef) →
    (∀ j oj d, j < n → ops[j]? = some oj → Region.waitsOn md o j = true → oj.dst = some d → F j (ev (.tmp d)) w) → ∃ u w', (Instr.buildSlice t len #[(k, ev x)]).run P w = .ok u w' ∧ Below w.heap.size w w' ∧ F i u w') : FStep P md ops n w0 a0 F i o := by
  intro ev w hb hc hg hf hs hp
  rw [if_pos (hw ev w hp)]
  obtain ⟨u, w', hu, hbel, hF⟩ := h ev w hb hc hs hp
  have : (execOp ev o).run P w = .ok (.value u) w' := by
    simp only [execOp, ho, Sem.run_bind, List.map_toArray, List.map_cons, List.map_nil, hu, Result.andThen_ok, Sem.run_pure]
  rw [this]
  exact ⟨hbel, hF⟩
theorem fstep_call (f : FuncId) (args : Array Operand) (ts : Array TypeId) (ho : o.op = .call { callee := .value (.func f), args := args, argTypes := ts }) (hw : ∀ (ev : Operand → Value) (w : World), (∀ j oj d, j < n → ops[j]? = some oj → Region.waitsOn md o j = true → oj.dst = some d → F j (ev (.tmp d)) w) → Region.wanted o (evY ops ev) = true) (vs : Array Value)
    (eg : ∀ w, (callFunc f vs).run P w = .ok (.enter f vs) w)
    (h : ∀ (ev : Operand → Value) (w : World), Below w0.heap.size w0 w → (∀ v, ev (.const v) = v) → (∀ t, Region.dstFree ops n t = true → ev (.tmp t) = a0.tmps.getD t undef) →
    (∀ j oj d, j < n → ops[j]? = some oj → Region.waitsOn md o j = true → oj.dst = some d → F j (ev (.tmp d)) w) → args.map ev = vs ∧ Calls P f vs w (fun e w'' => ∃ v, e = .returned v ∧ Below w.heap.size w w'' ∧ F i v w'')) : FStep P md ops n w0 a0 F i o := by
  intro ev w hb hc hg hf hs hp
  rw [if_pos (hw ev w hp)]
  obtain ⟨hv, hC⟩ := h ev w hb hc hs hp
  have : (execOp ev o).run P w = .ok (.enter f vs) w := by
    simp only [execOp, ho, Sem.run_bind, resolve, hf, hv, Deferred.ofValue, Array.empty_append, Result.andThen_ok, Sem.run_pure, invoke, Array.append_empty, eg]
  rw [this]
  exact ⟨rfl, hC⟩
end

theorem strs_row (cs : Array Value) (t : TypeId) (k : Nat) (ps : Nat → ByteArray) (w : World) (h : ∀ i, i < k → cs[i]? = some (.string (ps i))) : Strs (w.alloc (.cells cs t)) (some ⟨w.heap.size, 0, none⟩) k ps := by
  intro i hi
  refine ⟨w.heap.size, 0, rfl, ?_⟩
  refine cell_of_blk (heap_alloc_last _ _) _ ?_
  rw [Nat.zero_add]
  exact h i hi
def linkPs (n i k : Int) (x : ByteArray) : Nat → ByteArray := psL [numB n 2, oneB i, oneB k, x]
def linkB (n i k : Int) (x : ByteArray) : ByteArray := (shaB (tagN 33 (linkPs n i k x) 4)).extract 0 16
theorem link_row (n i k : Int) (x : ByteArray) : ∀ t, t < 4 → (#[.string (numB n 2), .string (oneB i), .string (oneB k), .string x] : Array Value)[t]? = some (.string (linkPs n i k x t)) := by
  intro t ht
  have h4 : t = 0 ∨ t = 1 ∨ t = 2 ∨ t = 3 := by omega
  rcases h4 with rfl | rfl | rfl | rfl <;> rfl
def chainN (n i a : Int) (x : ByteArray) : Nat → ByteArray
  | 0 => x
  | m + 1 => linkB n i (a + m) (chainN n i a x m)
theorem link_sz (n i k : Int) (x : ByteArray) : (tagN 33 (linkPs n i k x) 4).size = 1 + (4 + 2) + (4 + 1) + (4 + 1) + (4 + x.size) := by
  rw [tagN_succ, tagN_succ, tagN_succ, tagN_succ]
  show (oneB 33).size + 4 + (numB n 2).size + 4 + (oneB i).size + 4 + (oneB k).size + 4 + x.size = _
  rw [oneB_size, oneB_size, oneB_size, shanum_size]
  omega
theorem link_size (n i k : Int) (x : ByteArray) : (linkB n i k x).size = 16 := by
  unfold linkB
  rw [ByteArray.size_extract, show (shaB (tagN 33 (linkPs n i k x) 4)).size = 32 from outN_size _ 8]
  rfl
def ChRel (n i a : Int) (x : ByteArray) (m : Nat) (w : World) (s k : Value) (wr : World) : Prop :=
  ∃ j : Nat, j ≤ m ∧ k = .int .i64 (a + j) ∧ s = .string (chainN n i a x j) ∧ (chainN n i a x j).size ≤ 1000 + x.size ∧ Below w.heap.size w wr

set_option maxRecDepth 100000 in
set_option maxHeartbeats 1000000 in
theorem chain_any (n i a b : Int) (x : ByteArray) (hn : 0 ≤ n ∧ n < 65536) (hi : 0 ≤ i ∧ i < 256) (ha : 0 ≤ a) (hb : b < 256) (hx : x.size ≤ 1000000) (w : World) :
    Calls Tryz.prog 210 #[.int .i64 n, .int .i64 i, .int .i64 a, .int .i64 b, .string x] w fun e w' => e = .returned (.string (chainN n i a x (b - a).toNat)) ∧ Below w.heap.size w w' := by
  go_enter Tryz.func210, Tryz.ntmps210
  go_wp2_with fail
  go_loopw [4, 11] (fun s k wr => ChRel n i a x (b - a).toNat w s k wr) (fun _ k _ => (b - intOf k).toNat)
  case atStart => exact ⟨0, Nat.zero_le _, by rw [Int.natCast_zero, Int.add_zero], rfl, by show x.size ≤ _; omega, Below.refl _ _⟩
  case round =>
    obtain ⟨j, hj, rfl, rfl, hsz, hbel⟩ := hrel
    have HB := Lib.hid hbel
    clear hbel
    by_cases hlt : a + (j : Int) < b
    · generalize hy : chainN n i a x j = y at hsz ⊢
      have Hy := Lib.hid hy
      clear hy
      go_wp2_with fail
      refine (two_any n hn wr).mono ?_
      rintro e w2 ⟨rfl, hb2⟩
      have HB2 := Lib.hid (HB.out.trans (hb2.mono HB.out.size))
      clear hb2
      go_wp2_with fail
      refine (one_any i hi w2).mono ?_
      rintro e w3 ⟨rfl, hb3⟩
      have HB3 := Lib.hid (HB2.out.trans (hb3.mono HB2.out.size))
      clear hb3
      go_wp2_with fail
      refine (one_any (a + j) ⟨by omega, by omega⟩ w3).mono ?_
      rintro e w4 ⟨rfl, hb4⟩
      have HB4 := Lib.hid (HB3.out.trans (hb4.mono HB3.out.size))
      clear hb4
      go_wp2_with fail
      refine (tag_any 33 (by decide) _ 4 4 (linkPs n i (a + j) y) _ (strs_row _ _ 4 _ w4 ?_) (by decide) (by rw [link_sz]; omega)).mono ?_
      · intro t ht
        have h4 : t = 0 ∨ t = 1 ∨ t = 2 ∨ t = 3 := by omega
        rcases h4 with rfl | rfl | rfl | rfl <;> rfl
      rintro e w5 ⟨rfl, hb5⟩
      have HB5 := Lib.hid ((HB4.out.alloc HB4.out.size _).trans (hb5.mono (by rw [size_alloc]; have := HB4.out.size; omega)))
      clear hb5
      have hs5 : (shaB (tagN 33 (linkPs n i (a + j) y) 4)).size = 32 := outN_size _ 8
      go_wp2_with fail
      refine ⟨⟨j + 1, by omega, ?_, ?_, ?_, HB5.out⟩, ?_⟩
      · congr 1; omega
      · show _ = Value.string (linkB n i (a + j) (chainN n i a x j))
        rw [Hy.out]
        rfl
      · show (linkB n i (a + j) (chainN n i a x j)).size ≤ _
        have := link_size n i (a + j) (chainN n i a x j)
        omega
      · show (b - (a + j + 1)).toNat < (b - (a + j)).toNat
        omega
    · go_wp2_with fail
      go_ret
      refine ⟨?_, HB.out⟩
      rw [show (b - a).toNat = j by omega]
      rfl

/-! ### what a one-time signature is: digits, chains' ends, the public value -/
def byN (h : ByteArray) (k : Nat) : Nat := (h.data.toList.getD k 0).toNat
theorem byN_lt (h : ByteArray) (k : Nat) : byN h k < 256 := (h.data.toList.getD k 0).toNat_lt
def dgN (h : ByteArray) (k : Nat) : Nat := if k % 2 = 0 then byN h (k / 2) / 16 else byN h (k / 2) % 16
theorem dgN_lt (h : ByteArray) (k : Nat) : dgN h k < 16 := by
  unfold dgN
  have := byN_lt h (k / 2)
  split <;> omega
theorem dgN_even (h : ByteArray) (j : Nat) : dgN h (2 * j) = byN h j / 16 := by unfold dgN; rw [if_pos (by omega), show 2 * j / 2 = j by omega]
theorem dgN_odd (h : ByteArray) (j : Nat) : dgN h (2 * j + 1) = byN h j % 16 := by unfold dgN; rw [if_neg (by omega), show (2 * j + 1) / 2 = j by omega]
def smN (h : ByteArray) : Nat → Nat
  | 0 => 0
  | j + 1 => smN h j + (30 - byN h j / 16 - byN h j % 16)
theorem smN_le (h : ByteArray) : ∀ j, smN h j ≤ 30 * j
  | 0 => Nat.le_refl _
  | j + 1 => by have := smN_le h j; unfold smN; omega
def dgT (h : ByteArray) (k : Nat) : Nat := if k < 16 then dgN h k else if k = 16 then smN h 8 / 16 else smN h 8 % 16
theorem dgT_lt (h : ByteArray) (k : Nat) : dgT h k < 16 := by
  unfold dgT
  have := smN_le h 8
  have := dgN_lt h k
  split
  · assumption
  · split <;> omega
/-- the digits' cells behind j bytes. -/
def dgC (h : ByteArray) (j : Nat) : Array Value := ((List.range 18).map fun k => Value.int .i64 (if k < 2 * j then dgN h k else 0 : Nat)).toArray
def dgV (h : ByteArray) : Array Value := ((List.range 18).map fun k => Value.int .i64 (dgT h k)).toArray
theorem dgC_size (h : ByteArray) (j : Nat) : (dgC h j).size = 18 := by simp [dgC]
theorem dgV_size (h : ByteArray) : (dgV h).size = 18 := by simp [dgV]
theorem dgC_get (h : ByteArray) (j k : Nat) (hk : k < 18) : (dgC h j)[k]? = some (.int .i64 (if k < 2 * j then dgN h k else 0 : Nat)) := by
  unfold dgC
  rw [List.getElem?_toArray, List.getElem?_map, List.getElem?_range hk]
  rfl
theorem dgV_get (h : ByteArray) (k : Nat) (hk : k < 18) : (dgV h)[k]? = some (.int .i64 (dgT h k)) := by
  unfold dgV
  rw [List.getElem?_toArray, List.getElem?_map, List.getElem?_range hk]
  rfl
theorem dgC_zero (h : ByteArray) : dgC h 0 = Array.replicate 18 (.int .i64 0) := by
  apply Array.ext_getElem?
  intro k
  rcases Nat.lt_or_ge k 18 with hk | hk
  · rw [dgC_get h 0 k hk, if_neg (by omega)]
    rw [Array.getElem?_replicate, if_pos hk]
    rfl
  · rw [Array.getElem?_eq_none (by rw [dgC_size]; exact hk), Array.getElem?_eq_none (by simpa using hk)]
theorem dgC_next (h : ByteArray) (j : Nat) (hj : j < 8) : ((dgC h j).setIfInBounds (2 * j) (.int .i64 (byN h j / 16 : Nat))).setIfInBounds (2 * j + 1) (.int .i64 (byN h j % 16 : Nat)) = dgC h (j + 1) := by
  apply Array.ext_getElem?
  intro k
  rcases Nat.lt_or_ge k 18 with hk | hk
  · rw [dgC_get h (j + 1) k hk]
    by_cases e1 : k = 2 * j + 1
    · subst e1
      rw [Array.getElem?_setIfInBounds_self_of_lt (by rw [Array.size_setIfInBounds, dgC_size]; exact hk), if_pos (by omega), dgN_odd]
    · rw [Array.getElem?_setIfInBounds_ne (Ne.symm e1)]
      by_cases e2 : k = 2 * j
      · subst e2
        rw [Array.getElem?_setIfInBounds_self_of_lt (by rw [dgC_size]; exact hk), if_pos (by omega), dgN_even]
      · rw [Array.getElem?_setIfInBounds_ne (Ne.symm e2), dgC_get h j k hk]
        by_cases e3 : k < 2 * j
        · rw [if_pos e3, if_pos (by omega)]
        · rw [if_neg e3, if_neg (by omega)]
  · rw [Array.getElem?_eq_none (by rw [Array.size_setIfInBounds, Array.size_setIfInBounds, dgC_size]; exact hk), Array.getElem?_eq_none (by rw [dgC_size]; exact hk)]
theorem dgC_last (h : ByteArray) : ((dgC h 8).setIfInBounds 16 (.int .i64 (smN h 8 / 16 : Nat))).setIfInBounds 17 (.int .i64 (smN h 8 % 16 : Nat)) = dgV h := by
  apply Array.ext_getElem?
  intro k
  rcases Nat.lt_or_ge k 18 with hk | hk
  · rw [dgV_get h k hk]
    unfold dgT
    by_cases e1 : k = 17
    · subst e1
      rw [Array.getElem?_setIfInBounds_self_of_lt (by rw [Array.size_setIfInBounds, dgC_size]; exact hk), if_neg (by omega), if_neg (by omega)]
    · rw [Array.getElem?_setIfInBounds_ne (Ne.symm e1)]
      by_cases e2 : k = 16
      · subst e2
        rw [Array.getElem?_setIfInBounds_self_of_lt (by rw [dgC_size]; exact hk), if_neg (by omega), if_pos rfl]
      · rw [Array.getElem?_setIfInBounds_ne (Ne.symm e2), dgC_get h 8 k hk, if_pos (by omega), if_pos (by omega)]
  · rw [Array.getElem?_eq_none (by rw [Array.size_setIfInBounds, Array.size_setIfInBounds, dgC_size]; exact hk), Array.getElem?_eq_none (by rw [dgV_size]; exact hk)]
def psN (l : List ByteArray) : Nat → ByteArray := psL l
def tagB (x : Int) (l : List ByteArray) : ByteArray := shaB (tagN x (psL l) l.length)
theorem tagB_size (x : Int) (l : List ByteArray) : (tagB x l).size = 32 := outN_size _ 8
def txtH (text : ByteArray) : ByteArray := tagB 34 [text]
def secB (seed : ByteArray) (n i : Int) : ByteArray := (tagB 32 [seed, numB n 2, oneB i]).extract 0 16
theorem secB_size (seed : ByteArray) (n i : Int) : (secB seed n i).size = 16 := by
  unfold secB
  rw [ByteArray.size_extract, tagB_size]
  rfl
theorem chainN_size (n i a : Int) (x : ByteArray) (hx : x.size = 16) : ∀ m, (chainN n i a x m).size = 16
  | 0 => hx
  | m + 1 => link_size _ _ _ _
/-- g 0, g 1, .. g (j-1), one behind the other. -/
def allN (g : Nat → ByteArray) : Nat → ByteArray
  | 0 => ⟨#[]⟩
  | j + 1 => allN g j ++ g j
theorem allN_size (g : Nat → ByteArray) : ∀ j, (∀ i, i < j → (g i).size = 16) → (allN g j).size = 16 * j
  | 0, _ => rfl
  | j + 1, h => by
    show (allN g j ++ g j).size = _
    rw [ByteArray.size_append, allN_size g j (fun i hi => h i (by omega)), h j (by omega)]
    omega
def pubB (seed : ByteArray) (n : Int) : ByteArray := tagB 35 [allN (fun i => chainN n i 0 (secB seed n i) 15) 18]
def sigB (seed : ByteArray) (n : Int) (text : ByteArray) : ByteArray := allN (fun i => chainN n i 0 (secB seed n i) (dgT (txtH text) i)) 18
def recB (n : Int) (text sig : ByteArray) : ByteArray := tagB 35 [allN (fun i => chainN n i (dgT (txtH text) i) (sig.extract (16 * i) (16 * i + 16)) (15 - dgT (txtH text) i)) 18]
theorem sigB_size (seed : ByteArray) (n : Int) (text : ByteArray) : (sigB seed n text).size = 288 := by
  unfold sigB
  rw [allN_size]
  intro i hi
  exact chainN_size _ _ _ _ (secB_size _ _ _) _
/-! ### a key's signature -/
def numK (sig : ByteArray) : Int × Int :=
  if sig.size < 291 ∨ 4 < byN sig 0 ∨ sig.size ≠ 291 + 32 * byN sig 0 ∨ 2 ^ byN sig 0 ≤ 256 * byN sig 1 + byN sig 2 then (0, 3) else ((256 * byN sig 1 + byN sig 2 : Nat), 0)
def climbN (sig : ByteArray) (n : Nat) (x : ByteArray) : Nat → ByteArray
  | 0 => x
  | h + 1 => if n / 2 ^ h % 2 = 0 then tagB 37 [climbN sig n x h, sig.extract (291 + 32 * h) (323 + 32 * h)] else tagB 37 [sig.extract (291 + 32 * h) (323 + 32 * h), climbN sig n x h]
def verP (want text sig : ByteArray) : Int :=
  if (numK sig).2 ≠ 0 then (numK sig).2
  else if tagB 38 [oneB (byN sig 0), climbN sig (numK sig).1.toNat (recB (numK sig).1 text (sig.extract 3 291)) (byN sig 0)] = want then 0 else 9

theorem run_one (x : Int) (hx : 0 ≤ x ∧ x < 256) (w0 w : World) (v : Value) (B : Nat) (h : OwnB w B v (oneB x)) : (convert 47 9 v).run Tryz.prog w = .ok (.string (oneB x)) w := run_str h
theorem build_one (x : Int) (hx : 0 ≤ x ∧ x < 256) (B : Nat) (w : World) (hB : B ≤ w.heap.size) : ∃ u w', (Instr.buildSlice 47 1 #[(0, .int .u8 x)]).run Tryz.prog w = .ok u w' ∧ Below w.heap.size w w' ∧ OwnB w' B u (oneB x) := by
  refine ⟨.slice (some ⟨w.heap.size, 0, none⟩) 1 1, w.alloc (.cells #[.int .u8 x] 5), by kernel_rfl, (Below.refl _ _).alloc (Nat.le_refl _) _, ?_⟩
  refine ⟨by rw [strCells_one, oneB_size, Nat.one_mul]; rfl, .inr ⟨w.heap.size, 1, #[.int .u8 x], ?_, hB, heap_alloc_last _ _, ?_⟩⟩
  · rw [oneB_size]
  · rw [strCells_one, oneB_size, show x % 256 = x by omega]
    exact ⟨by decide, by decide, rfl, rfl⟩
theorem conv_u64 (n : Int) (hn : 0 ≤ n ∧ n < 65536) (w : World) : (convert 3 117 (.int .i64 n)).run Tryz.prog w = .ok (.int .u64 n) w := by
  have e1 : IntKind.u64.wrap n = n := by rw [show IntKind.u64.wrap n = n % 18446744073709551616 by simp [IntKind.wrap, IntKind.bits, IntKind.signed]]; omega
  have : (convert 3 117 (.int .i64 n)).run Tryz.prog w = .ok (.int .u64 (IntKind.u64.wrap n)) w := by kernel_rfl
  rw [this, e1]
theorem conv_u8 (n : Int) (hn : 0 ≤ n ∧ n < 256) (w : World) : (convert 3 5 (.int .i64 n)).run Tryz.prog w = .ok (.int .u8 n) w := by
  have e1 : IntKind.u8.wrap n = n := by rw [show IntKind.u8.wrap n = n % 256 by simp [IntKind.wrap, IntKind.bits, IntKind.signed]]; omega
  have : (convert 3 5 (.int .i64 n)).run Tryz.prog w = .ok (.int .u8 (IntKind.u8.wrap n)) w := by kernel_rfl
  rw [this, e1]

set_option maxRecDepth 100000 in
set_option maxHeartbeats 1000000 in
theorem links_any (n i a b : Int) (x : ByteArray) (hn : 0 ≤ n ∧ n < 65536) (hi : 0 ≤ i ∧ i < 256) (ha : 0 ≤ a) (hb : b < 256) (hx : x.size ≤ 1000000) (w : World) :
    Calls Tryz.prog 119 #[.int .i64 n, .int .i64 i, .int .i64 a, .int .i64 b, .string x] w fun e w' => e = .returned (.string (chainN n i a x (b - a).toNat)) ∧ Below w.heap.size w w' := by
  go_enter Tryz.func119, Tryz.ntmps119
  go_wp2_with fail
  go_loopw [4, 11] (fun s k wr => ChRel n i a x (b - a).toNat w s k wr) (fun _ k _ => (b - intOf k).toNat)
  case atStart => exact ⟨0, Nat.zero_le _, by rw [Int.natCast_zero, Int.add_zero], rfl, by show x.size ≤ _; omega, Below.refl _ _⟩
  case round =>
    obtain ⟨j, hj, rfl, rfl, hsz, hbel⟩ := hrel
    have HB := Lib.hid hbel
    clear hbel
    by_cases hlt : a + (j : Int) < b
    · generalize hy : chainN n i a x j = y at hsz ⊢
      have Hy := Lib.hid hy
      clear hy
      go_wp2_with fail
      have hk : 0 ≤ a + (j : Int) ∧ a + (j : Int) < 256 := by omega
      refine wp_region_facts 12 34 (FtF w.heap.size [.v (.int .i64 n), .v (.int .u64 n), .v (.string (numB n 2)), .v (.int .i64 i), .v (.int .u8 i), .own (oneB i), .v (.string (oneB i)), .v (.int .i64 (a + j)), .v (.int .u8 (a + j)), .own (oneB (a + j)), .v (.string (oneB (a + j))), .v (.string y)]) (by kernel_rfl) (by kernel_rfl) rfl (FtF.stable _ _) ⟨?_, ?_, ?_, ?_, ?_, ?_, ?_, ?_, ?_, ?_, ?_, ?_, trivial⟩ ?_
      · exact fstep_move (.tmp 0) rfl (fun _ _ _ => rfl) fun ev w1 hc hs hp => hs 0 (by kernel_rfl)
      · exact fstep_conv _ _ (.tmp 18) rfl (fun _ _ _ => rfl) fun ev w1 hb hc hs hp => ⟨_, (congrArg (fun v => (convert 3 117 v).run Tryz.prog w1) (hp 0 _ _ (by decide) rfl (by kernel_rfl) rfl)).trans (conv_u64 n hn w1), rfl⟩
      · exact fstep_call 67 #[.tmp 19, .const (.int .i64 2)] _ rfl (fun _ _ _ => rfl) #[.int .u64 n, .int .i64 2] (fun w => by kernel_rfl) fun ev w1 hb hc hs hp =>
          ⟨by simp only [List.map_toArray, List.map_cons, List.map_nil, hc, show ev (.tmp 19) = .int .u64 n from hp 1 _ _ (by decide) rfl (by kernel_rfl) rfl],
            (onumber_any n 2 ⟨hn.1, by omega⟩ (by decide) w1).mono fun e w2 ⟨he, hb⟩ => ⟨_, he, hb, rfl⟩⟩
      · exact fstep_move (.tmp 1) rfl (fun _ _ _ => rfl) fun ev w1 hc hs hp => hs 1 (by kernel_rfl)
      · exact fstep_conv _ _ (.tmp 21) rfl (fun _ _ _ => rfl) fun ev w1 hb hc hs hp => ⟨_, (congrArg (fun v => (convert 3 5 v).run Tryz.prog w1) (hp 3 _ _ (by decide) rfl (by kernel_rfl) rfl)).trans (conv_u8 i hi w1), rfl⟩
      · exact fstep_build _ _ (.tmp 22) 0 rfl (fun _ _ _ => rfl) fun ev w1 hb hc hs hp => by
          rw [show ev (.tmp 22) = .int .u8 i from hp 4 _ _ (by decide) rfl (by kernel_rfl) rfl]
          exact build_one i hi w.heap.size w1 (Nat.le_trans HB.out.size hb.size)
      · exact fstep_conv _ _ (.tmp 23) rfl (fun _ _ _ => rfl) fun ev w1 hb hc hs hp => ⟨_, run_str (hp 5 _ _ (by decide) rfl (by kernel_rfl) rfl), rfl⟩
      · exact fstep_move (.tmp 11) rfl (fun _ _ _ => rfl) fun ev w1 hc hs hp => hs 11 (by kernel_rfl)
      · exact fstep_conv _ _ (.tmp 25) rfl (fun _ _ _ => rfl) fun ev w1 hb hc hs hp => ⟨_, (congrArg (fun v => (convert 3 5 v).run Tryz.prog w1) (hp 7 _ _ (by decide) rfl (by kernel_rfl) rfl)).trans (conv_u8 (a + j) hk w1), rfl⟩
      · exact fstep_build _ _ (.tmp 26) 0 rfl (fun _ _ _ => rfl) fun ev w1 hb hc hs hp => by
          rw [show ev (.tmp 26) = .int .u8 (a + j) from hp 8 _ _ (by decide) rfl (by kernel_rfl) rfl]
          exact build_one (a + j) hk w.heap.size w1 (Nat.le_trans HB.out.size hb.size)
      · exact fstep_conv _ _ (.tmp 27) rfl (fun _ _ _ => rfl) fun ev w1 hb hc hs hp => ⟨_, run_str (hp 9 _ _ (by decide) rfl (by kernel_rfl) rfl), rfl⟩
      · exact fstep_move (.tmp 4) rfl (fun _ _ _ => rfl) fun ev w1 hc hs hp => hs 4 (by kernel_rfl)
      intro a' w1 H
      have HB1 := Lib.hid (HB.out.trans (H.below.mono HB.out.size))
      have e20 : a'.tmps.getD 20 undef = .string (numB n 2) := H.facts 2 _ _ (by decide) rfl (by kernel_rfl) rfl
      have e24 : a'.tmps.getD 24 undef = .string (oneB i) := H.facts 6 _ _ (by decide) rfl (by kernel_rfl) rfl
      have e28 : a'.tmps.getD 28 undef = .string (oneB (a + j)) := H.facts 10 _ _ (by decide) rfl (by kernel_rfl) rfl
      have e29 : a'.tmps.getD 29 undef = .string y := H.facts 11 _ _ (by decide) rfl (by kernel_rfl) rfl
      rw [act_list 34 [0, 1, 2, 3, 4, 5, 6, 7, 8, 9, 10, 11, 12, 13, 14, 15, 16, 17, 18, 19, 20, 21, 22, 23, 24, 25, 26, 27, 28, 29, 30, 31, 32, 33] rfl H.size]
      simp only [List.map_cons, List.map_nil, e20, e24, e28, e29, H.defers, H.same 0 (by kernel_rfl), H.same 1 (by kernel_rfl), H.same 2 (by kernel_rfl), H.same 3 (by kernel_rfl), H.same 4 (by kernel_rfl), H.same 5 (by kernel_rfl), H.same 6 (by kernel_rfl), H.same 7 (by kernel_rfl), H.same 8 (by kernel_rfl), H.same 9 (by kernel_rfl), H.same 10 (by kernel_rfl), H.same 11 (by kernel_rfl), H.same 12 (by kernel_rfl), H.same 13 (by kernel_rfl), H.same 14 (by kernel_rfl), H.same 15 (by kernel_rfl), H.same 16 (by kernel_rfl), H.same 17 (by kernel_rfl), H.same 30 (by kernel_rfl), H.same 31 (by kernel_rfl), H.same 32 (by kernel_rfl), H.same 33 (by kernel_rfl)]
      simp only [Array.getD_eq_getD_getElem?, List.getElem?_toArray, List.getElem?_cons_zero, List.getElem?_cons_succ, Option.getD_some]
      clear e20 e24 e28 e29 H
      show wpList _ _ _ _ _ _
      go_wp2_with fail
      refine (reftag_any 33 (by decide) _ 4 4 (linkPs n i (a + j) y) _ (strs_row _ _ 4 _ w1 ?_) (by decide) (by rw [link_sz]; omega)).mono ?_
      · exact link_row n i (a + j) y
      rintro e w5 ⟨rfl, hb5⟩
      have HB5 := Lib.hid ((HB1.out.alloc HB1.out.size _).trans (hb5.mono (by rw [size_alloc]; have := HB1.out.size; omega)))
      clear hb5
      have hs5 : (shaB (tagN 33 (linkPs n i (a + j) y) 4)).size = 32 := outN_size _ 8
      go_wp2_with fail
      refine ⟨⟨j + 1, by omega, ?_, ?_, ?_, HB5.out⟩, ?_⟩
      · congr 1; omega
      · show _ = Value.string (linkB n i (a + j) (chainN n i a x j))
        rw [Hy.out]
        rfl
      · show (linkB n i (a + j) (chainN n i a x j)).size ≤ _
        have := link_size n i (a + j) (chainN n i a x j)
        omega
      · show (b - (a + j + 1)).toNat < (b - (a + j)).toNat
        omega
    · go_wp2_with fail
      go_ret
      refine ⟨?_, HB.out⟩
      rw [show (b - a).toNat = j by omega]
      rfl

theorem row3 (a b c : ByteArray) : ∀ t, t < 3 → (#[.string a, .string b, .string c] : Array Value)[t]? = some (.string (psL [a, b, c] t)) := by
  intro t ht
  have h4 : t = 0 ∨ t = 1 ∨ t = 2 := by omega
  rcases h4 with rfl | rfl | rfl <;> rfl
theorem row2 (a b : ByteArray) : ∀ t, t < 2 → (#[.string a, .string b] : Array Value)[t]? = some (.string (psL [a, b] t)) := by
  intro t ht
  have h4 : t = 0 ∨ t = 1 := by omega
  rcases h4 with rfl | rfl <;> rfl
theorem row1 (a : ByteArray) : ∀ t, t < 1 → (#[.string a] : Array Value)[t]? = some (.string (psL [a] t)) := by
  intro t ht
  obtain rfl : t = 0 := by omega
  rfl
theorem tagN_sz3 (x : Int) (a b c : ByteArray) : (tagN x (psL [a, b, c]) 3).size = 1 + (4 + a.size) + (4 + b.size) + (4 + c.size) := by
  rw [tagN_succ, tagN_succ, tagN_succ]
  show (oneB x).size + 4 + a.size + 4 + b.size + 4 + c.size = _
  rw [oneB_size]
  omega
theorem tagN_sz2 (x : Int) (a b : ByteArray) : (tagN x (psL [a, b]) 2).size = 1 + (4 + a.size) + (4 + b.size) := by
  rw [tagN_succ, tagN_succ]
  show (oneB x).size + 4 + a.size + 4 + b.size = _
  rw [oneB_size]
  omega
theorem tagN_sz1 (x : Int) (a : ByteArray) : (tagN x (psL [a]) 1).size = 1 + (4 + a.size) := by
  rw [tagN_succ]
  show (oneB x).size + 4 + a.size = _
  rw [oneB_size]
  omega

set_option maxRecDepth 100000 in
set_option maxHeartbeats 1000000 in
theorem rsecret_any (seed : ByteArray) (n i : Int) (hn : 0 ≤ n ∧ n < 65536) (hi : 0 ≤ i ∧ i < 256) (hs : seed.size ≤ 1000000) (w : World) :
    Calls Tryz.prog 120 #[.string seed, .int .i64 n, .int .i64 i] w fun e w' => e = .returned (.string (secB seed n i)) ∧ Below w.heap.size w w' := by
  go_enter Tryz.func120, Tryz.ntmps120
  go_wp2_with fail
  refine wp_region_facts 8 18 (FtF w.heap.size [.v (.string seed), .v (.int .i64 n), .v (.int .u64 n), .v (.string (numB n 2)), .v (.int .i64 i), .v (.int .u8 i), .own (oneB i), .v (.string (oneB i))]) (by kernel_rfl) (by kernel_rfl) rfl (FtF.stable _ _) ⟨?_, ?_, ?_, ?_, ?_, ?_, ?_, ?_, trivial⟩ ?_
  · exact fstep_move (.tmp 0) rfl (fun _ _ _ => rfl) fun ev w1 hc hs hp => hs 0 (by kernel_rfl)
  · exact fstep_move (.tmp 1) rfl (fun _ _ _ => rfl) fun ev w1 hc hs hp => hs 1 (by kernel_rfl)
  · exact fstep_conv _ _ (.tmp 8) rfl (fun _ _ _ => rfl) fun ev w1 hb hc hs hp => ⟨_, (congrArg (fun v => (convert 3 117 v).run Tryz.prog w1) (hp 1 _ _ (by decide) rfl (by kernel_rfl) rfl)).trans (conv_u64 n hn w1), rfl⟩
  · exact fstep_call 67 #[.tmp 9, .const (.int .i64 2)] _ rfl (fun _ _ _ => rfl) #[.int .u64 n, .int .i64 2] (fun w => by kernel_rfl) fun ev w1 hb hc hs hp =>
      ⟨by simp only [List.map_toArray, List.map_cons, List.map_nil, hc, show ev (.tmp 9) = .int .u64 n from hp 2 _ _ (by decide) rfl (by kernel_rfl) rfl],
        (onumber_any n 2 ⟨hn.1, by omega⟩ (by decide) w1).mono fun e w2 ⟨he, hb⟩ => ⟨_, he, hb, rfl⟩⟩
  · exact fstep_move (.tmp 2) rfl (fun _ _ _ => rfl) fun ev w1 hc hs hp => hs 2 (by kernel_rfl)
  · exact fstep_conv _ _ (.tmp 11) rfl (fun _ _ _ => rfl) fun ev w1 hb hc hs hp => ⟨_, (congrArg (fun v => (convert 3 5 v).run Tryz.prog w1) (hp 4 _ _ (by decide) rfl (by kernel_rfl) rfl)).trans (conv_u8 i hi w1), rfl⟩
  · exact fstep_build _ _ (.tmp 12) 0 rfl (fun _ _ _ => rfl) fun ev w1 hb hc hs hp => by
      rw [show ev (.tmp 12) = .int .u8 i from hp 5 _ _ (by decide) rfl (by kernel_rfl) rfl]
      exact build_one i hi w.heap.size w1 hb.size
  · exact fstep_conv _ _ (.tmp 13) rfl (fun _ _ _ => rfl) fun ev w1 hb hc hs hp => ⟨_, run_str (hp 6 _ _ (by decide) rfl (by kernel_rfl) rfl), rfl⟩
  intro a' w1 H
  have HB1 := Lib.hid H.below
  have e7 : a'.tmps.getD 7 undef = .string seed := H.facts 0 _ _ (by decide) rfl (by kernel_rfl) rfl
  have e10 : a'.tmps.getD 10 undef = .string (numB n 2) := H.facts 3 _ _ (by decide) rfl (by kernel_rfl) rfl
  have e14 : a'.tmps.getD 14 undef = .string (oneB i) := H.facts 7 _ _ (by decide) rfl (by kernel_rfl) rfl
  rw [act_list 18 [0, 1, 2, 3, 4, 5, 6, 7, 8, 9, 10, 11, 12, 13, 14, 15, 16, 17] rfl H.size]
  simp only [List.map_cons, List.map_nil, e7, e10, e14, H.defers, H.same 0 (by kernel_rfl), H.same 1 (by kernel_rfl), H.same 2 (by kernel_rfl), H.same 3 (by kernel_rfl), H.same 4 (by kernel_rfl), H.same 5 (by kernel_rfl), H.same 6 (by kernel_rfl), H.same 15 (by kernel_rfl), H.same 16 (by kernel_rfl), H.same 17 (by kernel_rfl)]
  simp only [Array.getD_eq_getD_getElem?, List.getElem?_toArray, List.getElem?_cons_zero, List.getElem?_cons_succ, Option.getD_some]
  clear e7 e10 e14 H
  show wpList _ _ _ _ _ _
  go_wp2_with fail
  refine (reftag_any 32 (by decide) _ 3 3 (psL [seed, numB n 2, oneB i]) _ (strs_row _ _ 3 _ w1 (row3 _ _ _)) (by decide) (by rw [tagN_sz3, shanum_size, oneB_size]; omega)).mono ?_
  rintro e w5 ⟨rfl, hb5⟩
  have HB5 := Lib.hid ((HB1.out.alloc HB1.out.size _).trans (hb5.mono (by rw [size_alloc]; have := HB1.out.size; omega)))
  clear hb5
  have hs5 : (shaB (tagN 32 (psL [seed, numB n 2, oneB i]) 3)).size = 32 := outN_size _ 8
  go_wp2_with fail
  go_ret
  exact ⟨rfl, HB5.out⟩
end Go.Proofs.YtmejjphliaiamaaGreatDoor
