import Derived.Test.YtffolbdimkhmmaaDoorScW
import Derived.Lib.ItoaLen
set_option linter.unusedVariables false
set_option linter.unusedSimpArgs false
namespace Go.Proofs.YtffolbdimkhmmaaDoor
open Go Go.RowKit Go.Lib Go.Maps Go.WideMaps

/-! ### script.Text -/
theorem builder_new (w : World) : Lib.IsBuilderF TB 5 w.heap.size w.heap.size [] (w.alloc (.cells #[.pointer none, .slice none 0 0] 44)) :=
  .inl ⟨Nat.le_refl _, .slice none 0 0, blk_new w _, World.ownsRowF_of (ownB_nil _ _), by simp [Value.ownBlock]⟩
theorem isb_below {T e : TypeId} {B b : Nat} {bs : List Value} {w w' : World} (h : Lib.IsBuilderF T e B b bs w) (k : Below w.heap.size w w') : Lib.IsBuilderF T e B b bs w' := by
  have one : ∀ p, Lib.BuilderAtF T e B b p bs w → Lib.BuilderAtF T e B b p bs w' := fun p h => by
    have hlt := h.lt
    obtain ⟨hB, v, hb, hown, hne⟩ := h
    exact ⟨hB, v, blk_later hb k, hown.kept (row := none) ⟨k.os, k.tape, k.output, k.size, fun i hi _ => k.block i hi⟩ (by cases hv : v.ownBlock <;> simp), hne⟩
  exact h.elim (fun h => .inl (one _ h)) (fun h => .inr (one _ h))
/-- a place's words told, whichever place. -/
theorem field_tell (m a b n : Nat) (c : UInt8) (hc : isPl c) : ∃ (g : Nat) (lb : Array Value) (rv : Value), fieldV a b n c = .agg #[rv, .func (.func g) #[] lb, .bool (decide (c = 75))] ∧ (∃ h lc, rv = .func (.func h) #[] lc) ∧ (∀ args w, (callFunc g args).run Tryd.prog w = .ok (.enter g args) w) ∧
    ∀ (W : World) (s : StP) (kv : Value), FieldsM W m a b n → VarsV W → s.inR → s.text.size ≤ 35184372088000 → s.keep.length ≤ 100000000 → IntsM W kv s.keep →
      Calls Tryd.prog g (#[stepV s kv] ++ lb) W (ListPost (tellC c s) W) := by
  have hk : ∀ (W : World) (kv : Value) (l : List Int), IntsM W kv l → ∃ ao n c, kv = .slice ao n c := fun W kv l h => by obtain ⟨ad, cap, rfl, -⟩ := h; exact ⟨_, _, _, rfl⟩
  rcases hc with rfl | rfl | rfl | rfl | rfl
  · exact ⟨61, #[.pointer (some ⟨a, 0, none⟩)], _, rfl, ⟨_, _, rfl⟩, enters_of Tryd.func61 (by kernel_rfl) rfl, fun W s kv hF hV hr ht hl hi => tell_A a s kv W hr hV (hk W kv _ hi) hF.a⟩
  · exact ⟨61, #[.pointer (some ⟨b, 0, none⟩)], _, rfl, ⟨_, _, rfl⟩, enters_of Tryd.func61 (by kernel_rfl) rfl, fun W s kv hF hV hr ht hl hi => tell_B b s kv W hr hV (hk W kv _ hi) hF.b⟩
  · exact ⟨61, #[.pointer (some ⟨n, 0, none⟩)], _, rfl, ⟨_, _, rfl⟩, enters_of Tryd.func61 (by kernel_rfl) rfl, fun W s kv hF hV hr ht hl hi => tell_N n s kv W hr hV (hk W kv _ hi) hF.n⟩
  · exact ⟨45, #[], _, rfl, ⟨_, _, rfl⟩, enters_of Tryd.func45 (by kernel_rfl) rfl, fun W s kv hF hV hr ht hl hi => tell_T s kv W ht (hk W kv _ hi)⟩
  · exact ⟨49, #[], _, rfl, ⟨_, _, rfl⟩, enters_of Tryd.func49 (by kernel_rfl) rfl, fun W s kv hF hV hr ht hl hi => tell_K s kv W hr hV hi hl⟩

/-- what a list of steps may be. -/
def okS (x : StP) : Prop := x.inR ∧ (-9223372036854775808 ≤ x.kind ∧ x.kind ≤ 9223372036854775807)
/-- how long a step's line is at most. -/
def stW (x : StP) : Nat := 2 * x.text.size + 22 * x.keep.length + 200
def stsW : List StP → Nat
  | [] => 0
  | x :: r => stW x + stsW r
/-! sizes of a line -/
def lenS (ws : List ByteArray) : Nat := (ws.map fun w => w.size + 1).sum
theorem lenS_cons (w : ByteArray) (ws : List ByteArray) : lenS (w :: ws) = w.size + 1 + lenS ws := rfl
theorem lenS_app (a b : List ByteArray) : lenS (a ++ b) = lenS a + lenS b := by unfold lenS; rw [List.map_append, List.sum_append]
theorem join_len : ∀ ws : List ByteArray, (Lib.join (ws.map (·.data.toList)) [32]).length ≤ lenS ws
  | [] => Nat.zero_le _
  | w :: ws => by
    rw [List.map_cons, Lib.join_cons, List.length_append, lenS_cons, size_data]
    have : ∀ ws : List ByteArray, (joinTail [32] (ws.map (·.data.toList))).length = lenS ws := by
      intro ws
      induction ws with
      | nil => rfl
      | cons y r ih =>
        have e : joinTail [32] ((y :: r).map (·.data.toList)) = 32 :: (y.data.toList ++ joinTail [32] (r.map (·.data.toList))) := by simp [joinTail]
        rw [e, List.length_cons, List.length_append, ih, lenS_cons, size_data]
        omega
    rw [this]
    omega
theorem itoaB_size (n : Int) (h : -9223372036854775808 ≤ n ∧ n ≤ 9223372036854775807) : (itoaB n).size ≤ 21 := by
  rw [size_data]
  exact Lib.itoa_length_le n h.1 h.2
theorem wordP_size (s : ByteArray) : (wordP s).size ≤ 2 * s.size + 1 := by
  unfold wordP
  split
  · show 1 ≤ _; omega
  · split
    · rw [ByteArray.size_append]
      have : (⟨#[39]⟩ : ByteArray).size = 1 := rfl
      omega
    · rw [size_data, size_data]
      show (hexL s.data.toList).length ≤ _
      rw [hexL_length]; omega
theorem keep_len (l : List Int) (h : ∀ x ∈ l, -9223372036854775808 ≤ x ∧ x ≤ 9223372036854775807) : lenS (l.map itoaB) ≤ 22 * l.length := by
  induction l with
  | nil => exact Nat.le_refl _
  | cons x r ih =>
    rw [List.map_cons, lenS_cons, List.length_cons]
    have h1 := itoaB_size x (h x (by simp))
    have h2 := ih (fun y hy => h y (by simp [hy]))
    omega
theorem tell_len (x : StP) (hx : x.inR) : ∀ pl : List UInt8, lenS (tellP pl x) ≤ pl.count 84 * (2 * x.text.size + 2) + pl.count 75 * (22 * x.keep.length) + pl.length * 22
  | [] => Nat.zero_le _
  | c :: r => by
    have ih := tell_len x hx r
    have e : tellP (c :: r) x = tellC c x ++ tellP r x := by unfold tellP; rw [List.flatMap_cons]
    rw [e, lenS_app, List.length_cons]
    unfold tellC
    by_cases h84 : c = 84
    · subst h84
      rw [if_pos rfl, List.count_cons_self, List.count_cons_of_ne (by decide), Nat.add_mul]
      have := wordP_size x.text
      have e2 : lenS [wordP x.text] = (wordP x.text).size + 1 := rfl
      omega
    · rw [if_neg h84, List.count_cons_of_ne h84]
      by_cases h75 : c = 75
      · subst h75
        rw [if_pos rfl, List.count_cons_self, Nat.add_mul]
        have := keep_len x.keep hx.2.2.2
        omega
      · rw [if_neg h75, List.count_cons_of_ne h75]
        have : ∀ n : Int, (-9223372036854775808 ≤ n ∧ n ≤ 9223372036854775807) → lenS [itoaB n] ≤ 22 := fun n hn => by
          have := itoaB_size n hn
          have e2 : lenS [itoaB n] = (itoaB n).size + 1 := rfl
          omega
        have h1 := this (if c = 65 then x.a else if c = 66 then x.b else x.n) (by
          split
          · exact hx.1
          · split
            · exact hx.2.1
            · exact hx.2.2.1)
        omega
theorem line_size {k : Int} {f : ByteArray × List UInt8} (h : formK k = some f) (x : StP) (hx : x.inR) : (lineB (f.1 :: tellP f.2 x)).size ≤ stW x ∧ (f.1 :: tellP f.2 x).length ≤ 10 + x.keep.length := by
  rcases formK_find k with ⟨g, hg, -, e⟩ | ⟨-, e⟩
  · rw [e] at h
    obtain rfl := Option.some.inj h
    dsimp only
    have hb : ∀ g ∈ formsL, g.1.size ≤ 9 ∧ g.2.2.count 84 ≤ 1 ∧ g.2.2.count 75 ≤ 1 ∧ g.2.2.length ≤ 4 := by decide +kernel
    obtain ⟨b1, b2, b3, b4⟩ := hb g hg
    have h1 := tell_len x hx g.2.2
    have h2 := join_len (g.1 :: tellP g.2.2 x)
    rw [lenS_cons] at h2
    have m1 : g.2.2.count 84 * (2 * x.text.size + 2) ≤ 1 * (2 * x.text.size + 2) := Nat.mul_le_mul_right _ b2
    have m2 : g.2.2.count 75 * (22 * x.keep.length) ≤ 1 * (22 * x.keep.length) := Nat.mul_le_mul_right _ b3
    constructor
    · unfold lineB stW
      rw [ByteArray.size_append]
      have e1 : (⟨#[10]⟩ : ByteArray).size = 1 := rfl
      have e2 : (⟨(Lib.join ((g.1 :: tellP g.2.2 x).map (·.data.toList)) [32]).toArray⟩ : ByteArray).size = (Lib.join ((g.1 :: tellP g.2.2 x).map (·.data.toList)) [32]).length := by rw [size_data]
      omega
    · have : ∀ pl : List UInt8, (tellP pl x).length ≤ pl.length + pl.count 75 * x.keep.length := by
        intro pl
        induction pl with
        | nil => exact Nat.zero_le _
        | cons c r ih =>
          have e : tellP (c :: r) x = tellC c x ++ tellP r x := by unfold tellP; rw [List.flatMap_cons]
          rw [e, List.length_append, List.length_cons]
          unfold tellC
          by_cases h84 : c = 84
          · subst h84; rw [if_pos rfl, List.count_cons_of_ne (by decide)]; simp only [List.length_cons, List.length_nil]; omega
          · rw [if_neg h84]
            by_cases h75 : c = 75
            · subst h75; rw [if_pos rfl, List.count_cons_self, Nat.add_mul, List.length_map]; omega
            · rw [if_neg h75, List.count_cons_of_ne h75]; simp only [List.length_cons, List.length_nil]; omega
      have h3 := this g.2.2
      have m3 : g.2.2.count 75 * x.keep.length ≤ 1 * x.keep.length := Nat.mul_le_mul_right _ b3
      rw [List.length_cons]
      omega
  · rw [e] at h; cases h
theorem sts_drop (L : List StP) (k : Nat) (x : StP) (h : L[k]? = some x) : stsW (L.drop k) = stW x + stsW (L.drop (k + 1)) := by
  have hk : k < L.length := (List.getElem?_eq_some_iff.1 h).1
  rw [List.drop_eq_getElem_cons hk]
  rw [List.getElem?_eq_getElem hk] at h
  rw [Option.some.inj h]
  rfl
theorem tells_cons (i : Nat) (x : StP) (r : List StP) (acc : ByteArray) : tellsP i (x :: r) acc = match lineP x with
    | none => (⟨#[]⟩, i + 1, 16)
    | some b => tellsP (i + 1) r (acc ++ b) := by rw [tellsP]; rfl
/-- while the kinds' names are laid down. -/
structure NmRel (w0 : World) (mF r nm mX a b n : Nat) (wr : World) (left : Lit → Bool) (cnt m : Nat) (N : DataW Unit) : Prop where
  rg : wr.ranges Tryd.prog 9 formR mF r 19 DF19 left cnt
  lf : ∀ z, left z = true → has DF19 z = true
  nms : wr.ownsMap Tryd.prog 3 strR nm m N
  np : NamesP N left
  sum : m + cnt ≤ 19
  fld : FieldsM wr mX a b n
  bel : Below w0.heap.size w0 wr
  ne : nm ≠ mF ∧ nm ≠ r ∧ nm ≠ mX ∧ nm ≠ a ∧ nm ≠ b ∧ nm ≠ n ∧ r ≠ mX ∧ r ≠ a ∧ r ≠ b ∧ r ≠ n ∧ w0.heap.size ≤ nm ∧ w0.heap.size ≤ r
theorem NmRel.own {w0 : World} {mF r nm mX a b n : Nat} {wr : World} {left : Lit → Bool} {cnt m : Nat} {N : DataW Unit} (h : NmRel w0 mF r nm mX a b n wr left cnt m N) : OwnsF wr mF := h.rg.owns
theorem key_str_inv {key : Value} {kl : Lit} (h : keyOf Tryd.prog 9 key = some kl) : ∃ x : ByteArray, key = .string x ∧ kl = kSt x := by
  cases key <;> simp [keyOf, Tryd.underlying9, mapKey] at h
  rename_i x
  exact ⟨x, rfl, h.2.symm⟩
theorem form_kind (f : ByteArray × Nat × List UInt8) (hf : f ∈ formsL) : f.2.1 ≤ 18 ∧ f.1.size ≤ 9 := by
  have : ∀ f ∈ formsL, f.2.1 ≤ 18 ∧ f.1.size ≤ 9 := by decide +kernel
  exact this f hf
/-- what a step is told by. -/
structure EnvT (w : World) (mF mX nm a b n m : Nat) (N : DataW Unit) : Prop where
  forms : OwnsF w mF
  fields : FieldsM w mX a b n
  names : w.ownsMap Tryd.prog 3 strR nm m N
  np : NamesP N (fun _ => false)
  vars : VarsV w
theorem EnvT.below {w w' : World} {mF mX nm a b n m : Nat} {N : DataW Unit} (h : EnvT w mF mX nm a b n m N) (k : Below w.heap.size w w') : EnvT w' mF mX nm a b n m N :=
  ⟨h.forms.below k, h.fields.below k, map_below h.names k, h.np, h.vars.below k⟩
def TxRel (L : List StP) (b0 : Nat) (w0 : World) (i : Value) (wr : World) : Prop := ∃ (k : Nat) (acc : ByteArray), k ≤ L.length ∧ i = .int .i64 k ∧ tellsP 0 L ⟨#[]⟩ = tellsP k (L.drop k) acc ∧ acc.size + stsW (L.drop k) ≤ stsW L ∧ Lib.IsBuilderF TB 5 b0 b0 (Lib.strCells acc) wr ∧ Below b0 w0 wr ∧ b0 ≤ wr.heap.size
theorem field_form (a b : Value) (w : World) : (Instr.field 69 (.agg #[a, b]) 1).run Tryd.prog w = .ok b w := by kernel_rfl
theorem field_tellF (a b c : Value) (w : World) : (Instr.field 74 (.agg #[a, b, c]) 1).run Tryd.prog w = .ok b w := by kernel_rfl
/-- while a step's words are told. -/
structure R4 (x it : Nat) (wk : World) (pl : List UInt8) (nmB : ByteArray) (st : StP) (xc : Array Value) (gf : Nat) (v : Value) (wr : World) (j : Nat) (D : List ByteArray) : Prop where
  hj : j + gf = pl.length
  hD : D = nmB :: tellP (pl.take j) st
  hO : OwnS wr wk.heap.size v D
  hx : wr.heap[x]? = some (.cells xc TSt (0, 0))
  hit : wr.heap[it]? = some (.stringIter (plB pl) j)
  hb : Below wk.heap.size wk wr
  hlt : x < it ∧ wk.heap.size ≤ x
theorem tell_take (pl : List UInt8) (st : StP) (j : Nat) (h : j < pl.length) : tellP (pl.take (j + 1)) st = tellP (pl.take j) st ++ tellC pl[j] st := by
  unfold tellP
  rw [List.take_succ_eq_append_getElem h, List.flatMap_append]
  simp
theorem tell_take_le (pl : List UInt8) (st : StP) (j : Nat) : (tellP (pl.take j) st).length ≤ (tellP pl st).length := by
  have h : tellP pl st = tellP (pl.take j) st ++ tellP (pl.drop j) st := by
    unfold tellP
    rw [← List.flatMap_append, List.take_append_drop]
  rw [h, List.length_append]
  omega
theorem join_lineB (ws : List ByteArray) : (⟨(Lib.join (ws.map (·.data.toList)) [32]).toArray⟩ : ByteArray) ++ ⟨#[10]⟩ = lineB ws := rfl
def TextPostS (L : List StP) (w : World) (e : Ending) (w' : World) : Prop :=
  e = .returned (.tuple #[.string (textsP L).1, .int .i64 (textsP L).2.1, .int .i64 (textsP L).2.2]) ∧ Below w.heap.size w w'
set_option maxRecDepth 100000 in
set_option maxHeartbeats 4000000 in
theorem text_all (v : Value) (L : List StP) (w : World) (hV : VarsV w) (hL : StM w v L) (hok : ∀ x ∈ L, okS x) (hz : stsW L ≤ 2000000000) :
    Calls Tryd.prog 12 #[v] w (TextPostS L w) := by
  have hmm := @run_makeMap Tryd.prog
  have HV := Lib.hid hV
  have HOk := Lib.hid hok
  obtain ⟨ad, cap, rfl, hcap1, hcap2, hc⟩ := hL
  have HC := Lib.hid hc
  clear hV hok hc
  go_enter Tryd.func12, Tryd.ntmps12
  go_wp2_with fail
  have hb0 := (Below.refl w.heap.size w).alloc (Nat.le_refl _) (.map #[] 0)
  have hm0 := World.ownsMap_made w Tryd.prog 3 strR
  have hV0 := HV.out.below hb0
  have hs0 : w.heap.size < (w.alloc (.map #[] 0)).heap.size := by rw [size_alloc]; omega
  generalize w.alloc (.map #[] 0) = w1 at hb0 hm0 hV0 hs0 ⊢
  have HB0 := Lib.hid hb0
  have HM0 := Lib.hid hm0
  have HV0 := Lib.hid hV0
  clear hb0 hm0 hV0 hmm
  refine (forms_any w1).mono ?_
  rintro e w2 ⟨rfl, hF, hb2⟩
  have HF := Lib.hid hF
  have HM2 := Lib.hid (map_below HM0.out hb2)
  have HV2 := Lib.hid (HV0.out.below hb2)
  have HB2 := Lib.hid (HB0.out.trans (hb2.mono HB0.out.size))
  have hmF2 := World.ownsMap.lt hF
  clear hF hb2 HM0 HV0 HB0
  have hmF1 : w.heap.size < w1.heap.size := hs0
  generalize w1.heap.size = mF at HF hmF1 hmF2 ⊢
  go_wp2_with fail
  refine (fields_any w2).mono ?_
  rintro e w3 ⟨a, b, n, rfl, hX, hab, hb3⟩
  have hXl := hX.lt
  have HX := Lib.hid hX
  have HM3 := Lib.hid (map_below HM2.out hb3)
  have HF3 := Lib.hid (HF.out.below hb3)
  have HV3 := Lib.hid (HV2.out.below hb3)
  have HB3 := Lib.hid (HB2.out.trans (hb3.mono HB2.out.size))
  clear hX hb3 HM2 HF HV2 HB2
  generalize w2.heap.size = mX at HX hmF2 hab hXl ⊢
  generalize hnm : w.heap.size = nm at HM3 hmF1 hs0
  go_wp2_with (first
    | (at_range; refine wpList_range_own _ rfl _ TF rfl 9 69 keyedSt Tryd.underlying64 formR mF 19 DF19 rfl HF3.out ?_; intro w4 hrg4 hg4 hs4)
    | fail)
  go_frame
  generalize hr : w3.heap.size = r at hrg4 hXl ⊢
  have hk4 : Kp (fun _ => False) w3 w4 := (Kp.refl _ w3).grown hg4 (fun k hk => by cases hk)
  have h4 : NmRel w mF r nm mX a b n w4 (has DF19) 19 0 (.map []) := by
    refine ⟨by rw [← size_DF]; exact hrg4, fun z hz => hz, HM3.out.kept hg4 (by simp), ⟨tidy_empty, fun f hf h => ?_, fun k hk => by cases hk⟩, by omega, HX.out.kp hk4 (fun h => h) (fun h => h) (fun h => h) (fun h => h), HB3.out.grown hg4 HB3.out.size (fun k hk => by cases hk), by omega⟩
    rw [(at_form (dF 0 ⟨#[]⟩) hf rfl).2] at h
    cases h
  have H4 := Lib.hid h4
  clear h4 hk4 hrg4 hg4 hs4 HX HF3 HB3 HM3 HV3
  go_loopw [] (fun wr => ∃ left cnt m N, NmRel w mF r nm mX a b n wr left cnt m N) (fun wr => wr.rangeLeft mF r)
  case atStart => exact ⟨_, _, _, _, H4.out⟩
  case round =>
    clear H4
    obtain ⟨left, cnt, m, N, h⟩ := hrel
    have HH := Lib.hid h
    clear h
    go_wp2_with (first
      | (at_next; refine wpList_next_ranges wr rfl _ rfl 9 keyedSt formR Value.string (fun c : Int × ByteArray => .agg #[.int .i64 c.1, .string c.2]) (fun key kl h => by obtain ⟨x, h1, _⟩ := key_str_inv h; exact ⟨x, h1⟩) (fun v y h => by obtain ⟨k, s, h1, _⟩ := formR_inv h; exact ⟨(k, s), h1⟩) mF r 19 DF19 left cnt rfl HH.out.rg ?_ ?_)
      | fail)
    · intro hc0 hl0
      have hl1 : left = fun _ => false := funext hl0
      have hE : EnvT wr mF mX nm a b n m N := ⟨HH.out.own, HH.out.fld, HH.out.nms, by rw [← hl1]; exact HH.out.np, HV.out.below HH.out.bel⟩
      have HE := Lib.hid hE
      have HBw := Lib.hid HH.out.bel
      clear hl1 hE hl0 hc0 HH
      obtain ⟨w0, hw0⟩ : ∃ w0 : World, w0 = wr := ⟨_, rfl⟩
      subst hw0
      have hbn := builder_new w0
      have hBn : Below w0.heap.size w0 (w0.alloc (.cells #[.pointer none, .slice none 0 0] 44)) := (Below.refl _ _).alloc (Nat.le_refl _) _
      have HBn := Lib.hid hbn
      have HBn2 := Lib.hid hBn
      clear hbn hBn
      go_wp2_with fail
      generalize w0.alloc (.cells #[.pointer none, .slice none 0 0] 44) = w7 at HBn HBn2 ⊢
      go_loopw [34] (fun i wr => TxRel L w0.heap.size w0 i wr) (fun i _ => L.length - (intOf i).toNat)
      case atStart => exact ⟨0, ⟨#[]⟩, Nat.zero_le _, rfl, rfl, by show 0 + _ ≤ _; rw [List.drop_zero]; omega, HBn.out, HBn2.out, HBn2.out.size⟩
      case round =>
        clear HBn HBn2
        obtain ⟨k, acc, hk, rfl, htl, hsz, hBd, hBl, hlt0⟩ := hrel
        have HTl := Lib.hid htl
        have HBd := Lib.hid hBd
        have HBl := Lib.hid hBl
        clear htl hBd hBl
        by_cases hlt : k < L.length
        · obtain ⟨x, hx⟩ : ∃ x, L[k]? = some x := ⟨_, List.getElem?_eq_getElem hlt⟩
          obtain ⟨pb, po, kv, rfl, hcc, hkv⟩ := HC.out k x hx
          have hokx := HOk.out x (List.mem_of_getElem? hx)
          have hbw : Below w.heap.size w wr := HBw.out.trans (HBl.out.mono HBw.out.size)
          have cc : ∀ j u, (stepL (x, kv))[j]? = some u → wr.cell? ⟨pb, po + k * 6 + j, none⟩ = some u := fun j u hu => (hbw.cell (cell_lt (hcc j u hu))).trans (hcc j u hu)
          have hkvr := hkv.below hbw
          obtain ⟨kad, kcap, hkve, -⟩ := id hkv
          subst hkve
          have c0 : wr.cell? ⟨pb, po + k * 6, none⟩ = some (.int .i64 x.kind) := cc 0 _ rfl
          have c1 := cc 1 _ rfl
          have c2 := cc 2 _ rfl
          have c3 := cc 3 _ rfl
          have c4 := cc 4 _ rfl
          have c5 := cc 5 _ rfl
          have hEr := HE.out.below (by exact HBl.out)
          have hname := fun o : Obj => look_name (wr.alloc o) nm m N (hEr.below ((Below.refl _ _).alloc (Nat.le_refl _) _)).names hEr.np x.kind hokx.2
          have hts := HTl.out
          rw [show L.drop k = x :: L.drop (k + 1) by rw [List.drop_eq_getElem_cons hlt]; rw [List.getElem?_eq_getElem hlt] at hx; rw [Option.some.inj hx], tells_cons] at hts
          have hk0 : (0 : Int) ≤ (k : Int) := Int.natCast_nonneg _
          have hk1 : (k : Int) < (L.length : Int) := by omega
          have HEr := Lib.hid hEr
          have HKv := Lib.hid hkvr
          have HOx := Lib.hid hokx
          have hstw := sts_drop L k x hx
          have HBwr := Lib.hid hbw
          clear hcc hkv cc hEr hkvr hokx hx hbw
          unfold lineP at hts
          cases hf : formK x.kind with
          | none =>
            rw [hf] at hts hname
            have hT : textsP L = (⟨#[]⟩, (k : Int) + 1, 16) := by
              unfold textsP
              rw [hts]
              rfl
            have HT := Lib.hid hT
            clear hT hts hf
            go_wp2_with fail
            go_ret3
            exact ⟨by rw [HT.out]; rfl, HBwr.out.alloc HBwr.out.size _⟩
          | some f =>
            rw [hf] at hts hname
            have hts : tellsP 0 L ⟨#[]⟩ = tellsP (k + 1) (L.drop (k + 1)) (acc ++ lineB (f.1 :: tellP f.2 x)) := hts
            obtain ⟨hfw, hkn, hpl0, -, -⟩ := formK_some hf
            have hpl := okPl_mem f.2 hpl0
            have hlz := line_size hf x HOx.out.1
            have hf9 : f.1.size ≤ maxLen := by
              rcases formK_find x.kind with ⟨q, hq, -, e⟩ | ⟨-, e⟩
              · rw [e] at hf
                rw [← Option.some.inj hf]
                have := (form_kind q hq).2
                unfold maxLen
                show q.1.size ≤ _
                omega
              · rw [e] at hf; cases hf
            obtain ⟨nmB, pl⟩ := f
            dsimp only at hts hfw hpl hlz hname hf9
            have hlk := fun o o' : Obj => look_form1 ((wr.alloc o).alloc o') mF nmB hf9 ((HEr.out.below ((Below.refl _ _).alloc (Nat.le_refl _) o)).below ((Below.refl _ _).alloc (Nat.le_refl _) o')).forms hfw
            have hff := fun (A B : Value) (W : World) => field_form A B W
            have HT3 := Lib.hid hts
            have HPL := Lib.hid hpl
            have HLZ := Lib.hid hlz
            clear hts hfw hkn hpl0 hpl hlz hf9 hf
            have hb8 : Below wr.heap.size wr (((wr.alloc (.cells #[.int .i64 x.kind, .int .i64 x.a, .int .i64 x.b, .int .i64 x.n, .string x.text, .slice kad x.keep.length kcap] TSt)).alloc (.cells #[.string nmB] 9)).iter (plB pl) 0) :=
              (((Below.refl wr.heap.size wr).alloc (Nat.le_refl _) _).alloc (by rw [size_alloc]; omega) _).alloc (by rw [size_alloc, size_alloc]; omega) _
            have h8 : R4 wr.heap.size (wr.heap.size + 1 + 1) wr pl nmB x #[.int .i64 x.kind, .int .i64 x.a, .int .i64 x.b, .int .i64 x.n, .string x.text, .slice kad x.keep.length kcap] pl.length (.slice (some ⟨wr.heap.size + 1, 0, none⟩) 1 1) (((wr.alloc (.cells #[.int .i64 x.kind, .int .i64 x.a, .int .i64 x.b, .int .i64 x.n, .string x.text, .slice kad x.keep.length kcap] TSt)).alloc (.cells #[.string nmB] 9)).iter (plB pl) 0) 0 [nmB] := by
              refine ⟨Nat.zero_add _, rfl, ?_, ?_, ?_, hb8, by omega⟩
              · have := ownS_one (wr.alloc (.cells #[.int .i64 x.kind, .int .i64 x.a, .int .i64 x.b, .int .i64 x.n, .string x.text, .slice kad x.keep.length kcap] TSt)) wr.heap.size nmB (by rw [size_alloc]; omega)
                rw [size_alloc] at this
                exact OwnL.alloc this _
              · exact blk_alloc (blk_new1 wr _ _) _
              · have := World.iter_heap ((wr.alloc (.cells #[.int .i64 x.kind, .int .i64 x.a, .int .i64 x.b, .int .i64 x.n, .string x.text, .slice kad x.keep.length kcap] TSt)).alloc (.cells #[.string nmB] 9)) (plB pl) 0
                rwa [size_alloc, size_alloc] at this
            have H8 := Lib.hid h8
            clear h8 hb8
            go_wp2_with fail
            generalize ((wr.alloc (.cells #[.int .i64 x.kind, .int .i64 x.a, .int .i64 x.b, .int .i64 x.n, .string x.text, .slice kad x.keep.length kcap] TSt)).alloc (.cells #[.string nmB] 9)).iter (plB pl) 0 = w8 at H8 ⊢
            obtain ⟨wk, hwk⟩ : ∃ wk : World, wk = wr := ⟨_, rfl⟩
            subst hwk
            go_loopg [15] pl.length (fun gf v wx => ∃ j D, R4 wk.heap.size (wk.heap.size + 1 + 1) wk pl nmB x #[.int .i64 x.kind, .int .i64 x.a, .int .i64 x.b, .int .i64 x.n, .string x.text, .slice kad x.keep.length kcap] gf v wx j D)
            case atStart => exact ⟨0, _, H8.out⟩
            case round =>
              clear H8 hlk hname
              obtain ⟨j, D, h4⟩ := hrel
              by_cases hj : j < pl.length
              · have hgk := h4.hj
                obtain ⟨gk, rfl⟩ : ∃ g', gk = g' + 1 := ⟨gk - 1, by omega⟩
                have hnx := next_pl wr (wk.heap.size + 1 + 1) pl j h4.hit hj (HPL.out _ (List.getElem_mem hj))
                have hki := iter_kp wr (wk.heap.size + 1 + 1) (plB pl) (j + 1)
                have hit8 := Lib.iterAt_heap wr (wk.heap.size + 1 + 1) (plB pl) j (j + 1) h4.hit
                have hx8 := blk_kp h4.hx hki (by omega)
                have hO8 := OwnL.kp h4.hO hki (fun g hg e => by subst e; exact own_ne h4.hO h4.hit (fun cs f e => by cases e) hg.symm)
                have hb8 : Below wk.heap.size wk (wr.iterAt (wk.heap.size + 1 + 1) (plB pl) (j + 1)) := h4.hb.trans (hki.toBelow h4.hb.size (fun i hi => by omega))
                have hD1 : nmB :: tellP (pl.take (j + 1)) x = D ++ tellC pl[j] x := by rw [h4.hD, tell_take pl x j hj]; rfl
                have hcp := HPL.out _ (List.getElem_mem hj)
                have hlz2 := tell_take_le pl x (j + 1)
                generalize pl[j] = c at hnx hcp hD1
                generalize wr.iterAt (wk.heap.size + 1 + 1) (plB pl) (j + 1) = w9 at hnx hit8 hx8 hO8 hb8
                have hE9 := HEr.out.below hb8
                obtain ⟨g, lbc, rv, hfv, ⟨gt, lct, rfl⟩, heg, htl9⟩ := field_tell mX a b n c hcp
                have hlk := look_field w9 mX a b n c hcp hE9.fields
                rw [hfv] at hlk
                have hff2 := fun (A B C : Value) (W : World) => field_tellF A B C W
                have c0 := cell_of_blk hx8 0 (v := .int .i64 x.kind) rfl
                have c1 := cell_of_blk hx8 1 (v := .int .i64 x.a) rfl
                have c2 := cell_of_blk hx8 2 (v := .int .i64 x.b) rfl
                have c3 := cell_of_blk hx8 3 (v := .int .i64 x.n) rfl
                have c4 := cell_of_blk hx8 4 (v := .string x.text) rfl
                have c5 := cell_of_blk hx8 5 (v := .slice kad x.keep.length kcap) rfl
                have hsw : stW x ≤ 2000000000 := by omega
                have hcl := htl9 w9 x (.slice kad x.keep.length kcap) hE9.fields hE9.vars HOx.out.1 (by unfold stW at hsw; omega) (by unfold stW at hsw; omega) (HKv.out.below hb8)
                have hlen9 : D.length + (tellC c x).length ≤ 1000000000 := by
                  have e := congrArg List.length hD1
                  rw [List.length_append, List.length_cons] at e
                  have := HLZ.out.2
                  unfold stW at hsw
                  simp only [List.length_cons] at this
                  omega
                have HCl := Lib.hid hcl
                have HD1 := Lib.hid hD1
                have HO9 := Lib.hid hO8
                have HIt9 := Lib.hid hit8
                have HX9 := Lib.hid hx8
                have HB9 := Lib.hid hb8
                have HGk := Lib.hid hgk
                have HLt := Lib.hid h4.hlt
                obtain ⟨vad, vcap, hu15, -⟩ := OwnL.form h4.hO
                subst hu15
                clear hcl hD1 hO8 hit8 hx8 hb8 hgk h4 hki hE9 hfv htl9 hlz2 hsw
                go_wp2_with fail
                refine HCl.out.mono ?_
                rintro e w10 ⟨v10, rfl, hO10, hb10⟩
                have HOD := Lib.hid (OwnL.below HO9.out hb10)
                have HOT := Lib.hid hO10
                have HIt10 := Lib.hid (blk_later HIt9.out hb10)
                have HX10 := Lib.hid (blk_later HX9.out hb10)
                have HB10 := Lib.hid (HB9.out.trans (hb10.mono HB9.out.size))
                have hsz10 : wk.heap.size ≤ w10.heap.size := Nat.le_trans HB9.out.size hb10.size
                clear hO10 hb10 HO9 HIt9 HX9 HB9 HCl c0 c1 c2 c3 c4 c5
                obtain ⟨i0, hi, hz0, hz1, hz2⟩ := info_parts infoStr
                have HI2 := Lib.hid hz2
                clear hz2
                go_wp2_with (first | (at_builtin; refine wpList_appLs _ rfl _ _ 59 rfl i0 (.string ⟨#[]⟩) 16 Tryd.underlying59 hi hz0 hz1 HI2.out rfl (by decide) wk.heap.size _ D rfl HOD.out w9.heap.size v10 (tellC c x) rfl HOT.out (fun _ => rfl) ?_ ?_ (by decide) ?_ ?_) | fail)
                · intro y hy u hu
                  rw [List.mem_singleton.1 hu]
                  rfl
                · exact hlen9
                · exact hsz10
                intro v11 w11 ho11 hg11
                have hk11 : Kp (fun k => (Value.slice vad D.length vcap).ownBlock = some k) w10 w11 := (Kp.refl _ w10).grown hg11 (fun k hk => .inl hk)
                have hit11 := blk_kp HIt10.out hk11 (fun e => own_ne HOD.out HIt10.out (fun cs f e => by cases e) e.symm)
                have hx11 := blk_kp HX10.out hk11 (fun e => own_ne HOD.out HX10.out (fun cs f e => by injection e with _ e; exact absurd e (by decide)) e.symm)
                have hb11 : Below wk.heap.size wk w11 := HB10.out.grown hg11 hsz10 (fun k hk => (OwnL.lt HOD.out k hk).1)
                have h11 : R4 wk.heap.size (wk.heap.size + 1 + 1) wk pl nmB x #[.int .i64 x.kind, .int .i64 x.a, .int .i64 x.b, .int .i64 x.n, .string x.text, .slice kad x.keep.length kcap] gk v11 w11 (j + 1) (D ++ tellC c x) :=
                  ⟨by have := HGk.out; omega, HD1.out.symm, ho11, hx11, hit11, hb11, HLt.out⟩
                have H11 := Lib.hid h11
                clear h11 hit11 hx11 hb11 hk11 ho11 hg11
                go_wp2_with fail
                go_roundg gk
                case measure => omega
                case rel => exact ⟨_, _, H11.out⟩
              · have hjj : j = pl.length := by have := h4.hj; omega
                subst hjj
                have hne := next_end wr (wk.heap.size + 1 + 1) pl h4.hit
                have hD := h4.hD
                rw [List.take_length] at hD
                subst hD
                obtain ⟨vad, vcap, hu15, hvc1, hvc2, hvf⟩ := OwnL.form h4.hO
                obtain ⟨vg, rfl, -, ⟨vcur, vfz, hvh⟩, hvcells⟩ := hvf (by simp)
                subst hu15
                have hws := ownS_ws h4.hO
                have hjc : ∀ (j : Nat) y, (nmB :: tellP pl x)[j]? = some y → wr.cell? ⟨vg, 0 + j, none⟩ = some (.string y) := by
                  obtain ⟨ad2, cap2, e2, -, -, hc2⟩ := hws
                  injection e2 with e2
                  intro j y hy
                  obtain ⟨pb2, po2, e3, -, h5⟩ := hc2 j y hy
                  rw [← e2] at e3
                  injection e3 with e3
                  injection e3 with e3 e4
                  subst e3
                  subst e4
                  exact h5
                have hjl := join_len (nmB :: tellP pl x)
                have hlz := HLZ.out
                have hsw : stW x ≤ 2000000000 := by omega
                have hjs : (Lib.join ((nmB :: tellP pl x).map (·.data.toList)) [32]).length + 1 ≤ stW x := by
                  have h6 := hlz.1
                  unfold lineB at h6
                  rw [ByteArray.size_append] at h6
                  have e1 : (⟨#[10]⟩ : ByteArray).size = 1 := rfl
                  have e2 : (⟨(Lib.join ((nmB :: tellP pl x).map (·.data.toList)) [32]).toArray⟩ : ByteArray).size = (Lib.join ((nmB :: tellP pl x).map (·.data.toList)) [32]).length := by rw [size_data]
                  omega
                have hJ := Tryd.strings_Join vg 0 vcap (nmB :: tellP pl x) ⟨#[32]⟩ wr hjc (Array.getElem?_eq_some_iff.1 hvh).1 (by have := hlz.2; unfold stW at hsw; simp only [List.length_cons] at this ⊢; omega) hvc1 (by
                  show (Lib.join ((nmB :: tellP pl x).map (·.data.toList)) [32]).length ≤ _
                  omega)
                rw [show (⟨#[32]⟩ : ByteArray).data.toList = [32] from rfl] at hJ
                have hbr := h4.hb
                have HJ := Lib.hid hJ
                have HBr := Lib.hid hbr
                obtain ⟨js, hjsB⟩ : ∃ js : ByteArray, js = ⟨(Lib.join ((nmB :: tellP pl x).map (·.data.toList)) [32]).toArray⟩ := ⟨_, rfl⟩
                have hjz : js.size + 1 ≤ stW x := by
                  rw [hjsB, size_data]
                  exact hjs
                have hline : lineB (nmB :: tellP pl x) = js ++ ⟨#[10]⟩ := by rw [hjsB]; rfl
                rw [← hjsB] at HJ
                have HLine := Lib.hid hline
                have hroom : ¬ 9223372036854775807 < js.size + 1 := by omega
                have hroom2 : ¬ 9223372036854775807 < js.size + (⟨#[10]⟩ : ByteArray).size := by rw [show (⟨#[10]⟩ : ByteArray).size = 1 from rfl]; omega
                have hBd := isb_below HBd.out hbr
                have HBd2 := Lib.hid hBd
                have hszb : w0.heap.size ≤ wr.heap.size := Nat.le_trans hlt0 hbr.size
                clear hJ hws hjc hjl hjs hvcells hvh hvc1 hvc2 h4 hbr hlz hline hjsB hBd
                go_wp2_with fail
                refine HJ.out.mono ?_
                rintro e w9 ⟨rfl, hb9⟩
                have hBd9 := isb_below HBd2.out hb9
                have hb9' := HBr.out.trans (hb9.mono HBr.out.size)
                have HB9 := Lib.hid hb9'
                have HBd9 := Lib.hid hBd9
                have hsz9 : w0.heap.size ≤ w9.heap.size := Nat.le_trans hszb hb9.size
                clear hb9 hBd9 hb9' HJ HBd2 HBr
                have hac : (Lib.strCells acc).length + (js ++ ⟨#[10]⟩ : ByteArray).size ≤ 140737488355328 := by
                  rw [Lib.strCells_length, ByteArray.size_append, show (⟨#[10]⟩ : ByteArray).size = 1 from rfl]
                  omega
                have HW := Lib.hid (bwrite_any w0.heap.size w0.heap.size (Lib.strCells acc) (js ++ ⟨#[10]⟩) w9 HBd9.out hac hsz9)
                go_wp2_with fail
                refine HW.out.mono ?_
                rintro e w10 ⟨rfl, hbd10, hb10⟩
                rw [← strCells_append, ← HLine.out] at hbd10
                have hnew : acc.size + (lineB (nmB :: tellP pl x)).size + stsW (L.drop (k + 1)) ≤ stsW L := by
                  have := HLZ.out.1
                  omega
                have HF := Lib.hid (And.intro hbd10 (And.intro (HBl.out.trans ((HB9.out.mono hlt0).trans hb10)) (And.intro hnew (Nat.le_trans hsz9 hb10.size))))
                clear hbd10 hb10 hnew hac HW HBd9
                go_wp2_with fail
                go_roundw
                case rel => exact ⟨k + 1, acc ++ lineB (nmB :: tellP pl x), hlt, by go_num, HT3.out, by rw [ByteArray.size_append]; exact HF.out.2.2.1, .inr HF.out.1, HF.out.2.1, HF.out.2.2.2⟩
                case measure => simp [intOf]; omega
        · obtain rfl : k = L.length := by omega
          have hts := HTl.out
          rw [List.drop_length] at hts
          have hts2 : tellsP 0 L ⟨#[]⟩ = (acc, 0, 0) := hts
          have hTx : textsP L = if 65536 < acc.size ∨ 1024 < L.length then (⟨#[]⟩, 0, 4) else (acc, 0, 0) := by
            unfold textsP
            rw [hts2]
            rfl
          have HTx := Lib.hid hTx
          have HBwr := Lib.hid (HBw.out.trans (HBl.out.mono HBw.out.size))
          have HLn := Lib.hid (Tryd.Builder_Len_f w0.heap.size w0.heap.size (Lib.strCells acc) wr HBd.out)
          have HS := Lib.hid (Tryd.Builder_String_any_f w0.heap.size w0.heap.size acc.data.toList wr HBd.out hlt0)
          clear hts hts2 hTx
          go_wp2_with fail
          refine HLn.out.mono ?_
          rw [Lib.strCells_length]
          rintro e w9 ⟨rfl, rfl⟩
          by_cases h1 : 65536 < acc.size
          · have h1i : (65536 : Int) < (acc.size : Int) := by omega
            have HR := Lib.hid (HTx.out.trans (if_pos (.inl h1)))
            go_wp2_with fail
            go_ret3
            exact ⟨by rw [HR.out]; rfl, HBwr.out⟩
          · have h1i : ¬ (65536 : Int) < (acc.size : Int) := by omega
            by_cases h2 : 1024 < L.length
            · have h2i : (1024 : Int) < (L.length : Int) := by omega
              have HR := Lib.hid (HTx.out.trans (if_pos (.inr h2)))
              go_wp2_with fail
              go_ret3
              exact ⟨by rw [HR.out]; rfl, HBwr.out⟩
            · have h2i : ¬ (1024 : Int) < (L.length : Int) := by omega
              have HR := Lib.hid (HTx.out.trans (if_neg (by omega)))
              go_wp2_with fail
              refine HS.out.mono ?_
              rintro e w10 ⟨rfl, -, hb10⟩
              have HBf := Lib.hid (HBwr.out.trans (hb10.mono HBw.out.size))
              clear hb10
              go_wp2_with fail
              go_ret3
              exact ⟨by rw [HR.out]; rfl, HBf.out⟩
    · intro x ck cs kl y1 y2 w5 cnt' hkey hlx hy hat hrg5 hlt5 hg5 hs5 hen
      obtain ⟨x', hx', hkl⟩ := key_str_inv hkey
      injection hx' with hx'
      subst hx'
      subst hkl
      obtain ⟨f, hf, hfx, hfk⟩ := entry_form (c := (ck, cs)) HH.out.lf hlx hy hat
      dsimp only at hfk
      subst hfx
      subst hfk
      have hk18 := form_kind f hf
      have hne := HH.out.ne
      have hnm5 := HH.out.nms.kept hg5 (fun e => hne.2.1 (Option.some.inj e))
      have hsum := HH.out.sum
      have hp5 := HH.out.np.step hf
      have hlf5 : ∀ z, (left z && !z.sameKey (kSt f.1)) = true → has DF19 z = true := fun z hz => HH.out.lf z (by rw [Bool.and_eq_true] at hz; exact hz.1)
      have hk5 : Kp (fun k => some r = some k) wr w5 := (Kp.refl _ wr).grown hg5 (fun k hk => .inl hk)
      have hf5 : FieldsM w5 mX a b n := HH.out.fld.kp hk5 (fun e => by injection e; omega) (fun e => by injection e; omega) (fun e => by injection e; omega) (fun e => by injection e; omega)
      have hb5 : Below w.heap.size w w5 := HH.out.bel.grown hg5 HH.out.bel.size (fun k hk => by injection hk; omega)
      have HN5 := Lib.hid hnm5
      have HR5 := Lib.hid hrg5
      have HP5 := Lib.hid hp5
      have HL5 := Lib.hid hlf5
      have HF5 := Lib.hid hf5
      have HB5 := Lib.hid hb5
      have HLt := Lib.hid hlt5
      have HNe := Lib.hid hne
      clear hnm5 hrg5 hp5 hlf5 hf5 hb5 hk5 hlt5 hg5 hs5 hy hat hkey hlx hne
      go_wp2_with (first
        | (at_mapUpdate; refine wpList_mapUpdate_own _ rfl _ _ _ TN rfl 3 9 keyedI Tryd.underlying63 strR nm m N rfl (World.ownsMap.alloc HN5.out _) (by unfold maxLen; omega) _ _ (kI f.2.1) rfl rfl (key_i (by omega)) (dSt f.1) [] rfl ?_; intro w6 hown6 hgrow6)
        | fail)
      have hne := HNe.out
      have hk6 : Kp (fun k => some nm = some k) w5 w6 := ((Kp.refl _ w5).alloc _).grown hgrow6 (fun k hk => .inl hk)
      have h6 : NmRel w mF r nm mX a b n w6 (fun z => left z && !z.sameKey (kSt f.1)) cnt' (m + 1) (N.put (kI f.2.1) (dSt f.1)) :=
        ⟨(HR5.out.alloc _).kept hgrow6 (fun e => hne.1 (Option.some.inj e).symm) (fun e => hne.2.1 (Option.some.inj e).symm), HL5.out, hown6, HP5.out, by have := HLt.out; omega,
          HF5.out.kp hk6 (fun e => by injection e; omega) (fun e => by injection e; omega) (fun e => by injection e; omega) (fun e => by injection e; omega),
          (HB5.out.alloc HB5.out.size _).grown hgrow6 (by rw [size_alloc]; have := HB5.out.size; omega) (fun k hk => by injection hk; omega), hne⟩
      have hm6 : w6.rangeLeft mF r < wr.rangeLeft mF r := by
        rw [h6.rg.left_eq, HH.out.rg.left_eq]
        exact HLt.out
      have H6 := Lib.hid h6
      have HM6 := Lib.hid hm6
      clear h6 hm6 hk6 hown6 hgrow6 hne
      go_frame
      go_roundw
      case rel => exact ⟨_, _, _, _, H6.out⟩
      case measure => exact HM6.out
end Go.Proofs.YtffolbdimkhmmaaDoor
