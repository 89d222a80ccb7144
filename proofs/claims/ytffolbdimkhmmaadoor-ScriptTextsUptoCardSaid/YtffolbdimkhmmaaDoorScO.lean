import Derived.Test.YtffolbdimkhmmaaDoorScM
import Derived.Laws.EntriesVeiled
set_option linter.unusedVariables false
set_option linter.unusedSimpArgs false
namespace Go.Proofs.YtffolbdimkhmmaaDoor
open Go Go.RowKit Go.Maps Go.WideMaps

/-! ### the places -/
abbrev TX : TypeId := 66
def numV (a : Nat) : Value := .agg #[.func (.func 60) #[] #[.pointer (some ⟨a, 0, none⟩)], .func (.func 61) #[] #[.pointer (some ⟨a, 0, none⟩)], .bool false]
def textFV : Value := .agg #[.func (.func 43) #[] #[], .func (.func 45) #[] #[], .bool false]
def keepFV : Value := .agg #[.func (.func 47) #[] #[], .func (.func 49) #[] #[], .bool true]
def zeroFV : Value := .agg #[.nilFunc, .nilFunc, .bool false]
def capR (c : Array Value) : Option Int := match c.toList with
  | [] => some (-1)
  | [.pointer (some ⟨a, 0, none⟩)] => some (a : Int)
  | _ => none
def uncap (i : Int) : Array Value := if i < 0 then #[] else #[.pointer (some ⟨i.toNat, 0, none⟩)]
theorem capR_back {c : Array Value} {i : Int} (h : capR c = some i) : c = uncap i := by
  unfold capR at h
  split at h
  · rename_i hc
    obtain rfl := Option.some.inj h
    obtain ⟨l⟩ := c
    obtain rfl : l = [] := hc
    rfl
  · rename_i a hc
    obtain rfl := Option.some.inj h
    obtain ⟨l⟩ := c
    obtain rfl : l = [.pointer (some ⟨a, 0, none⟩)] := hc
    unfold uncap
    rw [if_neg (by omega)]
    rfl
  · cases h
def fieldR (v : Value) : Option (DataW Unit × List MemPlace) := match v with
  | .agg c => match c.toList with
    | [.func (.func f) x ca, .func (.func g) y cb, .bool m] => if x = #[] ∧ y = #[] then (match capR ca, capR cb with
      | some i, some j => some (.agg [.lit (.int .i64 f), .lit (.int .i64 g), .lit (.int .i64 i), .lit (.int .i64 j), .lit (.bool m)], [])
      | _, _ => none) else none
    | [.nilFunc, .nilFunc, .bool m] => some (.lit (.bool m), [])
    | _ => none
  | _ => none
def unF : DataW Unit → Value
  | .agg [.lit (.int .i64 f), .lit (.int .i64 g), .lit (.int .i64 i), .lit (.int .i64 j), .lit (.bool m)] => .agg #[.func (.func f.toNat) #[] (uncap i), .func (.func g.toNat) #[] (uncap j), .bool m]
  | .lit (.bool m) => .agg #[.nilFunc, .nilFunc, .bool m]
  | _ => .nilFunc
theorem fieldR_back {v : Value} {z : DataW Unit × List MemPlace} (h : fieldR v = some z) : v = unF z.1 := by
  unfold fieldR at h
  split at h
  · rename_i c
    split at h
    · rename_i f x ca g y cb m hc
      split at h
      · rename_i hxy
        obtain ⟨rfl, rfl⟩ := hxy
        split at h
        · rename_i i j hi hj
          obtain rfl := Option.some.inj h
          obtain ⟨l⟩ := c
          obtain rfl : l = [.func (.func f) #[] ca, .func (.func g) #[] cb, .bool m] := hc
          rw [capR_back hi, capR_back hj]
          show Value.agg _ = Value.agg #[.func (.func (f : Int).toNat) #[] (uncap i), .func (.func (g : Int).toNat) #[] (uncap j), .bool m]
          rw [Int.toNat_natCast, Int.toNat_natCast]
        · cases h
      · cases h
    · rename_i m hc
      obtain rfl := Option.some.inj h
      obtain ⟨l⟩ := c
      obtain rfl : l = [.nilFunc, .nilFunc, .bool m] := hc
      rfl
    · cases h
  · cases h
def dN (f g : Nat) (i : Int) (m : Bool) : DataW Unit := .agg [.lit (.int .i64 f), .lit (.int .i64 g), .lit (.int .i64 i), .lit (.int .i64 i), .lit (.bool m)]
def dNum (a : Nat) : DataW Unit := dN 60 61 a false
def dText : DataW Unit := dN 43 45 (-1) false
def dKeep : DataW Unit := dN 47 49 (-1) true
theorem fR_num (a : Nat) : fieldR (numV a) = some (dNum a, []) := rfl
theorem fR_text : fieldR textFV = some (dText, []) := rfl
theorem fR_keep : fieldR keepFV = some (dKeep, []) := rfl
theorem fR_zero : fieldR zeroFV = some (.lit (.bool false), []) := rfl
theorem un_num (a : Nat) : unF (dNum a) = numV a := rfl
theorem un_text : unF dText = textFV := rfl
theorem un_keep : unF dKeep = keepFV := rfl
theorem keyedR : Keyed Tryd.prog 21 := int_keyed Tryd.underlying21
def kR (c : UInt8) : Lit := .int .i32 c.toNat
theorem kR_wf (c : UInt8) : (kR c).wf = true := by
  have : ∀ n : Fin 256, (Lit.int .i32 ((n.1 : Nat) : Int)).wf = true := by decide +kernel
  exact this ⟨c.toNat, c.toNat_lt⟩
theorem key_r (c : UInt8) : keyOf Tryd.prog 21 (.int .i32 c.toNat) = some (kR c) := keyOf_int_mk (P := Tryd.prog) Tryd.underlying21 (kR_wf c)
theorem kR_lit (c : UInt8) : WideAt.IsKeyLit (kR c) := by trivial
theorem kR_inj {c d : UInt8} (h : kR c = kR d) : c = d := by
  unfold kR at h
  injection h with _ h
  exact UInt8.toNat_inj.1 (by omega)
theorem zeroFieldV (w : World) : (zeroValue 74).run Tryd.prog w = .ok zeroFV w := by kernel_rfl
def DX (a b n : Nat) : DataW Unit := (((((DataW.map []).put (kR 65) (dNum a)).put (kR 66) (dNum b)).put (kR 78) (dNum n)).put (kR 84) dText).put (kR 75) dKeep
def fieldV (a b n : Nat) (c : UInt8) : Value := if c = 65 then numV a else if c = 66 then numV b else if c = 78 then numV n else if c = 84 then textFV else keepFV
def isPl (c : UInt8) : Prop := c = 65 ∨ c = 66 ∨ c = 78 ∨ c = 84 ∨ c = 75
theorem atDX (a b n : Nat) (c : UInt8) (hc : isPl c) (zd : DataW Unit) : unF ((DX a b n).atKey (kR c) zd) = fieldV a b n c := by
  have t0 : Tidy (DataW.map [] : DataW Unit) := tidy_empty
  have t1 := t0.put (kR_lit 65) (dNum a)
  have t2 := t1.put (kR_lit 66) (dNum b)
  have t3 := t2.put (kR_lit 78) (dNum n)
  have t4 := t3.put (kR_lit 84) dText
  have ne : ∀ {c d : UInt8}, c ≠ d → kR c ≠ kR d := fun h e => h (kR_inj e)
  unfold DX
  rcases hc with rfl | rfl | rfl | rfl | rfl
  · rw [atKey_put_other (ne (by decide)), atKey_put_other (ne (by decide)), atKey_put_other (ne (by decide)), atKey_put_other (ne (by decide)), atKey_put_same t0.isMap (kR_lit 65)]; exact un_num a
  · rw [atKey_put_other (ne (by decide)), atKey_put_other (ne (by decide)), atKey_put_other (ne (by decide)), atKey_put_same t1.isMap (kR_lit 66)]; exact un_num b
  · rw [atKey_put_other (ne (by decide)), atKey_put_other (ne (by decide)), atKey_put_same t2.isMap (kR_lit 78)]; exact un_num n
  · rw [atKey_put_other (ne (by decide)), atKey_put_same t3.isMap (kR_lit 84)]; exact un_text
  · rw [atKey_put_same t4.isMap (kR_lit 75)]; exact un_keep
/-- the map of places stands at m; what its numbers' places hold stands at a, b, n. -/
structure FieldsM (w : World) (m a b n : Nat) : Prop where
  own : w.ownsMap Tryd.prog 21 fieldR m 5 (DX a b n)
  a : w.heap[a]? = some (.cells #[.func (.func 40) #[] #[]] 99 (0, 0))
  b : w.heap[b]? = some (.cells #[.func (.func 41) #[] #[]] 99 (0, 0))
  n : w.heap[n]? = some (.cells #[.func (.func 42) #[] #[]] 99 (0, 0))
theorem FieldsM.kp {S : Nat → Prop} {w w' : World} {m a b n : Nat} (h : FieldsM w m a b n) (k : Kp S w w') (hm : ¬ S m) (ha : ¬ S a) (hb : ¬ S b) (hn : ¬ S n) : FieldsM w' m a b n :=
  ⟨by
    have hlt := World.ownsMap.lt h.own
    obtain ⟨es, clock, hh, r⟩ := h.own
    exact ⟨es, clock, (k.block _ hlt hm).trans hh, r⟩, blk_kp h.a k ha, blk_kp h.b k hb, blk_kp h.n k hn⟩
theorem FieldsM.below {w w' : World} {m a b n : Nat} (h : FieldsM w m a b n) (k : Below w.heap.size w w') : FieldsM w' m a b n :=
  h.kp (S := fun _ => False) (Kp.of_below k) (fun h => h) (fun h => h) (fun h => h) (fun h => h)
theorem FieldsM.lt {w : World} {m a b n : Nat} (h : FieldsM w m a b n) : m < w.heap.size ∧ a < w.heap.size ∧ b < w.heap.size ∧ n < w.heap.size :=
  ⟨World.ownsMap.lt h.own, (Array.getElem?_eq_some_iff.1 h.a).1, (Array.getElem?_eq_some_iff.1 h.b).1, (Array.getElem?_eq_some_iff.1 h.n).1⟩
theorem look_field (w : World) (m a b n : Nat) (c : UInt8) (hc : isPl c) (hm : FieldsM w m a b n) :
    (Instr.lookup TX (.map (some m)) (.int .i32 c.toNat) false).run Tryd.prog w = .ok (fieldV a b n c) w := by
  obtain ⟨v, ps, hrun, hv⟩ := hm.own.lookup keyedR Tryd.underlying66 (zeroFieldV w) fR_zero (key_r c)
  rw [hrun, fieldR_back hv, atDX a b n c hc]
set_option maxRecDepth 100000 in
set_option maxHeartbeats 1000000 in
theorem number_any (g : Nat) (w : World) : Calls Tryd.prog 39 #[.func (.func g) #[] #[]] w fun e w' => e = .returned (numV w.heap.size) ∧ w'.heap[w.heap.size]? = some (.cells #[.func (.func g) #[] #[]] 99 (0, 0)) ∧ Below w.heap.size w w' ∧ w.heap.size < w'.heap.size := by
  have hmf : ∀ (fn : Fn) (first cap : Array Value) (w : World), (Instr.makeFunc fn first cap).run Tryd.prog w = .ok (.func fn first cap) w := fun _ _ _ _ => rfl
  go_enter Tryd.func39, Tryd.ntmps39
  go_wp2_with fail
  refine bodyPost_ret (v := numV w.heap.size) (by simp [results, Tryd.results39, go_sem, numV]) rfl ⟨rfl, ?_, ?_, ?_⟩
  · exact blk_new1 _ _ _
  · exact ((Below.refl _ _).alloc (Nat.le_refl _) _).alloc (by rw [size_alloc]; omega) _
  · rw [size_alloc, size_alloc]; omega
theorem map_below {k : TypeId} {R : Value → Option (DataW Unit × List MemPlace)} {w w' : World} {b n : Nat} {D : DataW Unit} (h : w.ownsMap Tryd.prog k R b n D) (hb : Below w.heap.size w w') : w'.ownsMap Tryd.prog k R b n D :=
  h.kept (row := none) ⟨hb.os, hb.tape, hb.output, hb.size, fun k hk _ => hb.block k hk⟩ (by simp)
abbrev TG : TypeId := 99
/-- one more place of a number: the call, then the store. -/
structure FSt (w wi : World) (n : Nat) (D : DataW Unit) (L : List (Nat × Nat)) : Prop where
  own : wi.ownsMap Tryd.prog 21 fieldR w.heap.size n D
  below : Below w.heap.size w wi
  big : w.heap.size < wi.heap.size
  blks : ∀ x ∈ L, w.heap.size < x.1 ∧ wi.heap[x.1]? = some (.cells #[.func (.func x.2) #[] #[]] TG (0, 0))
theorem FSt.call {w wi w' : World} {n : Nat} {D : DataW Unit} {L : List (Nat × Nat)} (h : FSt w wi n D L) (g : Nat) (hb : w'.heap[wi.heap.size]? = some (.cells #[.func (.func g) #[] #[]] TG (0, 0))) (hk : Below wi.heap.size wi w') : FSt w w' n D ((wi.heap.size, g) :: L) :=
  ⟨map_below h.own hk, h.below.trans (hk.mono (Nat.le_of_lt h.big)), Nat.lt_of_lt_of_le h.big hk.size, fun x hx => by
    rcases List.mem_cons.1 hx with rfl | hx
    · exact ⟨h.big, hb⟩
    · exact ⟨(h.blks x hx).1, blk_later (h.blks x hx).2 hk⟩⟩
theorem FSt.put {w wi w' : World} {n m : Nat} {D D' : DataW Unit} {L : List (Nat × Nat)} (h : FSt w wi n D L) (ho : w'.ownsMap Tryd.prog 21 fieldR w.heap.size m D') (hg : wi.grownBy w' (some w.heap.size)) : FSt w w' m D' L :=
  ⟨ho, h.below.grown hg (Nat.le_of_lt h.big) (fun k hk => by injection hk with hk; omega), Nat.lt_of_lt_of_le h.big hg.size, fun x hx => ⟨(h.blks x hx).1, by
    have h2 := (h.blks x hx).2
    exact (hg.block x.1 (Array.getElem?_eq_some_iff.1 h2).1 (fun e => by injection e with e; have := (h.blks x hx).1; omega)).trans h2⟩⟩

set_option maxRecDepth 100000 in
set_option maxHeartbeats 4000000 in
theorem fields_any (w : World) : Calls Tryd.prog 24 #[] w fun e w' => ∃ a b n, e = .returned (.map (some w.heap.size)) ∧ FieldsM w' w.heap.size a b n ∧ (w.heap.size < a ∧ w.heap.size < b ∧ w.heap.size < n) ∧ Below w.heap.size w w' := by
  have hmm := @run_makeMap Tryd.prog
  have hmf : ∀ (fn : Fn) (first cap : Array Value) (w : World), (Instr.makeFunc fn first cap).run Tryd.prog w = .ok (.func fn first cap) w := fun _ _ _ _ => rfl
  have H0 : Hid (FSt w (w.alloc (.map #[] 0)) 0 (.map []) []) := Lib.hid ⟨World.ownsMap_made w Tryd.prog 21 fieldR, (Below.refl w.heap.size w).alloc (Nat.le_refl _) _, by rw [size_alloc]; omega, fun x hx => by cases hx⟩
  go_enter Tryd.func24, Tryd.ntmps24
  go_wp2_with fail
  generalize w.alloc (.map #[] 0) = w0 at H0 ⊢
  refine (number_any 40 _).mono ?_
  rintro e v1 ⟨rfl, hbk, hbl, hsz⟩
  have H1' := Lib.hid (H0.out.call 40 hbk hbl)
  clear hbk hbl hsz H0
  generalize w0.heap.size = a1 at H1' ⊢
  go_wp2_with (first
    | (refine wpList_insert_own _ rfl _ _ _ TX rfl 21 74 keyedR Tryd.underlying66 fieldR w.heap.size 0 _ rfl H1'.out.own (by unfold maxLen; decide) _ (numV a1) (kR 65) rfl rfl (key_r 65) (dNum a1) [] (fR_num a1) ?_)
    | fail)
  intro w1 hown hgrow
  have H1 := Lib.hid (H1'.out.put hown hgrow)
  clear hown hgrow H1'
  go_wp2_with fail
  refine (number_any 41 _).mono ?_
  rintro e v2 ⟨rfl, hbk, hbl, hsz⟩
  have H2' := Lib.hid (H1.out.call 41 hbk hbl)
  clear hbk hbl hsz H1
  generalize w1.heap.size = a2 at H2' ⊢
  go_wp2_with (first
    | (refine wpList_insert_own _ rfl _ _ _ TX rfl 21 74 keyedR Tryd.underlying66 fieldR w.heap.size 1 _ rfl H2'.out.own (by unfold maxLen; decide) _ (numV a2) (kR 66) rfl rfl (key_r 66) (dNum a2) [] (fR_num a2) ?_)
    | fail)
  intro w2 hown hgrow
  have H2 := Lib.hid (H2'.out.put hown hgrow)
  clear hown hgrow H2'
  go_wp2_with fail
  refine (number_any 42 _).mono ?_
  rintro e v3 ⟨rfl, hbk, hbl, hsz⟩
  have H3' := Lib.hid (H2.out.call 42 hbk hbl)
  clear hbk hbl hsz H2
  generalize w2.heap.size = a3 at H3' ⊢
  go_wp2_with (first
    | (refine wpList_insert_own _ rfl _ _ _ TX rfl 21 74 keyedR Tryd.underlying66 fieldR w.heap.size 2 _ rfl H3'.out.own (by unfold maxLen; decide) _ (numV a3) (kR 78) rfl rfl (key_r 78) (dNum a3) [] (fR_num a3) ?_)
    | fail)
  intro w3 hown hgrow
  have H3 := Lib.hid (H3'.out.put hown hgrow)
  clear hown hgrow H3'
  go_wp2_with (first
    | (refine wpList_insert_own _ rfl _ _ _ TX rfl 21 74 keyedR Tryd.underlying66 fieldR w.heap.size 3 _ rfl H3.out.own (by unfold maxLen; decide) _ textFV (kR 84) rfl rfl (key_r 84) dText [] fR_text ?_)
    | fail)
  intro w4 hown hgrow
  have H4 := Lib.hid (H3.out.put hown hgrow)
  clear hown hgrow H3
  go_wp2_with (first
    | (refine wpList_insert_own _ rfl _ _ _ TX rfl 21 74 keyedR Tryd.underlying66 fieldR w.heap.size 4 _ rfl H4.out.own (by unfold maxLen; decide) _ keepFV (kR 75) rfl rfl (key_r 75) dKeep [] fR_keep ?_)
    | fail)
  intro w5 hown hgrow
  have H5 := Lib.hid (H4.out.put hown hgrow)
  clear hown hgrow H4
  go_wp2_with fail
  go_ret
  have h1 := H5.out.blks (a1, 40) (by simp)
  have h2 := H5.out.blks (a2, 41) (by simp)
  have h3 := H5.out.blks (a3, 42) (by simp)
  exact ⟨a1, a2, a3, rfl, ⟨H5.out.own, h1.2, h2.2, h3.2⟩, ⟨h1.1, h2.1, h3.1⟩, H5.out.below⟩
end Go.Proofs.YtffolbdimkhmmaaDoor
