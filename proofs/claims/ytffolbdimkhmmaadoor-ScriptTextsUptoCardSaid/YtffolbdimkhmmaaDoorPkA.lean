import Derived.Test.YtffolbdimkhmmaaDoorNb
import Derived.Deep.RegionHeld3
import Derived.Deep.AppendLies
import Derived.Deep.DrawnRows
set_option linter.unusedVariables false
set_option linter.unusedSimpArgs false
namespace Go.Proofs.YtffolbdimkhmmaaDoor
open Go Go.RowKit Go.Lib

/-! ### numbers and texts as bytes: what is laid and what is read, without memory -/
def badN (x : Int) (n : Nat) : Bool := decide (x < 0) || (decide (n < 8) && decide (((256 ^ n : Nat) : Int) ≤ x))
/-- what was laid, and whether it is spoilt. -/
abbrev WS := ByteArray × Bool
def wNum (q : WS) (x : Int) (n : Nat) : WS := if badN x n = true then (q.1, true) else (q.1 ++ numB x n, q.2)
def pText (q : WS) (s : ByteArray) : WS := ((wNum q s.size 2).1 ++ s, (wNum q s.size 2).2)
def pHash (q : WS) (s : ByteArray) : WS := (q.1 ++ s, q.2 || decide (s.size ≠ 32))
def rText (q : WS) (s : ByteArray) : WS := if 65535 < s.size then (q.1, true) else pText q s
def rHash (q : WS) (s : ByteArray) : WS := if s.size ≠ 32 then (q.1, true) else (q.1 ++ s, q.2)
/-- the program's and the document's: alike where it isn't spoilt. -/
def WEq (p r : WS) : Prop := p.2 = r.2 ∧ (p.2 = false → p.1 = r.1)
theorem WEq.refl (p : WS) : WEq p p := ⟨rfl, fun _ => rfl⟩
theorem WEq.num {p r : WS} (h : WEq p r) (x : Int) (n : Nat) : WEq (wNum p x n) (wNum r x n) := by
  unfold wNum
  split
  · exact ⟨rfl, fun h => by cases h⟩
  · exact ⟨h.1, fun h2 => by rw [h.2 h2]⟩
theorem WEq.text {p r : WS} (h : WEq p r) (s : ByteArray) : WEq (pText p s) (rText r s) := by
  have hn := h.num s.size 2
  unfold rText
  split
  · rename_i hs
    have hb : badN s.size 2 = true := by
      unfold badN
      simp
      omega
    unfold pText wNum
    rw [if_pos hb]
    exact ⟨rfl, fun h => by cases h⟩
  · exact ⟨hn.1, fun h2 => by show (wNum p s.size 2).1 ++ s = (wNum r s.size 2).1 ++ s; rw [hn.2 h2]⟩
theorem WEq.hash {p r : WS} (h : WEq p r) (s : ByteArray) : WEq (pHash p s) (rHash r s) := by
  unfold rHash pHash
  split
  · rename_i hs
    refine ⟨by simp [hs], fun h2 => ?_⟩
    simp [hs] at h2
  · rename_i hs
    have : decide (s.size ≠ 32) = false := decide_eq_false hs
    rw [this, Bool.or_false]
    exact ⟨h.1, fun h2 => by show p.1 ++ s = r.1 ++ s; rw [h.2 h2]⟩
def wOut (q : WS) : ByteArray × Int := if q.2 = true then (⟨#[]⟩, 1) else (q.1, 0)
theorem WEq.out {p r : WS} (h : WEq p r) : wOut p = wOut r := by
  unfold wOut
  rw [← h.1]
  split
  · rfl
  · rename_i hb
    rw [h.2 (by simpa using hb)]

/-- what is left, and the first error. -/
abbrev RS := ByteArray × Int
def rFail (r : RS) (e : Int) : RS := if r.2 = 0 then (r.1, e) else r
def rRaw (r : RS) (n : Int) : ByteArray × RS :=
  if r.2 ≠ 0 then (⟨#[]⟩, r) else if n < 0 then (⟨#[]⟩, (r.1, 1)) else if (r.1.size : Int) < n then (⟨#[]⟩, (r.1, 2)) else (r.1.extract 0 n.toNat, (r.1.extract n.toNat r.1.size, r.2))
def beL (l : List UInt8) : Nat := l.foldl (fun x c => 256 * x + c.toNat) 0
def beV (s : ByteArray) : Int := beL s.data.toList
def rNum (r : RS) (n : Int) : Int × RS := (beV (rRaw r n).1, (rRaw r n).2)
def topBad (s : ByteArray) : Bool := decide (8 ≤ s.size) && decide (128 ≤ (s.data.toList.getD 0 0).toNat)
def rEight (r : RS) : Int × RS := rNum (if topBad r.1 = true then rFail r 3 else r) 8
def rTxt2 (r : RS) (most : Int) : RS := if max most 0 < (rNum r 2).1 then rFail (rNum r 2).2 4 else (rNum r 2).2
def rTxt (r : RS) (most : Int) : ByteArray × RS :=
  if r.2 ≠ 0 then (⟨#[]⟩, r) else
    ((rRaw (rTxt2 r most) (rNum r 2).1).1, if (rRaw (rTxt2 r most) (rNum r 2).1).2.2 ≠ 0 then (r.1, (rRaw (rTxt2 r most) (rNum r 2).1).2.2) else (rRaw (rTxt2 r most) (rNum r 2).1).2)
def rEnd (r : RS) : RS := if 0 < r.1.size then rFail r 3 else r

theorem rRaw_err {r : RS} (h : r.2 ≠ 0) (n : Int) : rRaw r n = (⟨#[]⟩, r) := by unfold rRaw; rw [if_pos h]
theorem rRaw_size (r : RS) (n : Int) : (rRaw r n).1.size ≤ r.1.size ∧ (rRaw r n).2.1.size ≤ r.1.size := by
  unfold rRaw
  split
  · exact ⟨Nat.zero_le _, Nat.le_refl _⟩
  · split
    · exact ⟨Nat.zero_le _, Nat.le_refl _⟩
    · split
      · exact ⟨Nat.zero_le _, Nat.le_refl _⟩
      · exact ⟨by rw [ByteArray.size_extract]; omega, by rw [ByteArray.size_extract]; omega⟩
theorem rRaw_len (r : RS) (n : Nat) : (rRaw r n).1.size ≤ n := by
  unfold rRaw
  split
  · exact Nat.zero_le _
  · split
    · exact Nat.zero_le _
    · split
      · exact Nat.zero_le _
      · rw [ByteArray.size_extract, Int.toNat_natCast]; omega
theorem beL_lt : ∀ (l : List UInt8), beL l < 256 ^ l.length := by
  have h : ∀ (l : List UInt8) (a : Nat), l.foldl (fun x (c : UInt8) => 256 * x + c.toNat) a < (a + 1) * 256 ^ l.length := by
    intro l
    induction l with
    | nil => intro a; simp
    | cons c l ih =>
      intro a
      rw [List.foldl_cons, List.length_cons, Nat.pow_succ]
      refine Nat.lt_of_lt_of_le (ih _) ?_
      have hc := c.toNat_lt
      rw [Nat.mul_comm (256 ^ l.length) 256, ← Nat.mul_assoc]
      exact Nat.mul_le_mul_right _ (by omega)
  intro l
  have := h l 0
  rw [Nat.zero_add, Nat.one_mul] at this
  exact this
theorem beL_snoc (l : List UInt8) (c : UInt8) : beL (l ++ [c]) = 256 * beL l + c.toNat := by
  unfold beL
  rw [List.foldl_append]
  rfl

theorem beL_take_le (l : List UInt8) (k : Nat) : beL (l.take k) ≤ beL l := by
  have h : ∀ (m : List UInt8) (a : Nat), a ≤ m.foldl (fun x (c : UInt8) => 256 * x + c.toNat) a := by
    intro m
    induction m with
    | nil => intro a; exact Nat.le_refl _
    | cons c m ih => intro a; have := ih (256 * a + c.toNat); rw [List.foldl_cons]; omega
  have h2 : beL l = (l.drop k).foldl (fun x (c : UInt8) => 256 * x + c.toNat) (beL (l.take k)) := by
    unfold beL
    rw [← List.foldl_append, List.take_append_drop]
  rw [h2]
  exact h _ _
theorem beL_top (c : UInt8) (l : List UInt8) (h : c.toNat < 128) : beL (c :: l) < 128 * 256 ^ l.length := by
  have h2 : ∀ (l : List UInt8) (a : Nat), l.foldl (fun x (c : UInt8) => 256 * x + c.toNat) a < (a + 1) * 256 ^ l.length := by
    intro l
    induction l with
    | nil => intro a; simp
    | cons c l ih =>
      intro a
      rw [List.foldl_cons, List.length_cons, Nat.pow_succ]
      refine Nat.lt_of_lt_of_le (ih _) ?_
      have hc := c.toNat_lt
      rw [Nat.mul_comm (256 ^ l.length) 256, ← Nat.mul_assoc]
      exact Nat.mul_le_mul_right _ (by omega)
  unfold beL
  rw [List.foldl_cons, Nat.mul_zero, Nat.zero_add]
  exact Nat.lt_of_lt_of_le (h2 _ _) (Nat.mul_le_mul_right _ (by omega))
theorem take_snoc' (s : ByteArray) (k : Nat) (h : k < s.size) : s.data.toList.take (k + 1) = s.data.toList.take k ++ [s.data.toList.getD k 0] := by
  have hl : k < s.data.toList.length := by rw [Array.length_toList]; exact h
  rw [List.take_succ_eq_append_getElem hl, List.getD_eq_getElem?_getD, List.getElem?_eq_getElem hl]
  rfl
/-- what is read of n bytes fits an int. -/
theorem raw_fits (r : RS) (n : Nat) (hn : n ≤ 7 ∨ (n = 8 ∧ (topBad r.1 = true → r.2 ≠ 0))) : beL (rRaw r n).1.data.toList < 9223372036854775808 := by
  have hl := rRaw_len r n
  have hll : (rRaw r n).1.data.toList.length = (rRaw r n).1.size := Array.length_toList
  have hb := beL_lt (rRaw r n).1.data.toList
  rcases hn with hn | ⟨rfl, ht⟩
  · refine Nat.lt_of_lt_of_le hb ?_
    have : (256 : Nat) ^ (rRaw r n).1.data.toList.length ≤ 256 ^ 7 := Nat.pow_le_pow_right (by decide) (by omega)
    refine Nat.le_trans this (by decide)
  · by_cases h8 : (rRaw r 8).1.data.toList.length ≤ 7
    · refine Nat.lt_of_lt_of_le hb ?_
      have : (256 : Nat) ^ (rRaw r 8).1.data.toList.length ≤ 256 ^ 7 := Nat.pow_le_pow_right (by decide) h8
      refine Nat.le_trans this (by decide)
    · have he : r.2 = 0 := by
        refine Classical.byContradiction fun h => ?_
        rw [show ((8 : Nat) : Int) = 8 from rfl] at hll
        rw [rRaw_err h] at h8
        exact h8 (by simp)
      have hnb : topBad r.1 = false := by
        cases hx : topBad r.1 with
        | false => rfl
        | true => exact absurd he (ht hx)
      have hform : (rRaw r 8).1 = r.1.extract 0 8 ∧ 8 ≤ r.1.size := by
        unfold rRaw at h8 ⊢
        rw [if_neg (show ¬ r.2 ≠ 0 by omega), if_neg (by decide)] at h8 ⊢
        by_cases hs : (r.1.size : Int) < 8
        · rw [if_pos hs] at h8
          exact absurd (Nat.zero_le _) h8
        · rw [if_neg hs]
          exact ⟨rfl, by omega⟩
      obtain ⟨hf, hs⟩ := hform
      have htop : (r.1.data.toList.getD 0 0).toNat < 128 := by
        unfold topBad at hnb
        rw [decide_eq_true hs, Bool.true_and] at hnb
        have := of_decide_eq_false hnb
        omega
      show beL (rRaw r 8).1.data.toList < _
      rw [hf]
      have hlist : (r.1.extract 0 8).data.toList = r.1.data.toList.take 8 := by simp
      rw [hlist]
      cases hr : r.1.data.toList with
      | nil =>
        have : r.1.data.toList.length = r.1.size := Array.length_toList
        rw [hr] at this
        simp at this
        omega
      | cons c l =>
        rw [hr] at htop
        rw [List.take_succ_cons]
        have := beL_top c (l.take 7) (by simpa using htop)
        refine Nat.lt_of_lt_of_le this ?_
        have h7 : (l.take 7).length ≤ 7 := by rw [List.length_take]; omega
        have : (256 : Nat) ^ (l.take 7).length ≤ 256 ^ 7 := Nat.pow_le_pow_right (by decide) h7
        have h9 : (128 : Nat) * 256 ^ 7 = 9223372036854775808 := by decide
        omega

/-! ### in memory -/
/-- a writer stands in block b. -/
structure Wr (T : TypeId) (B : Nat) (w : World) (b : Nat) (v : Value) (q : WS) : Prop where
  blk : w.heap[b]? = some (.cells #[v, .bool q.2] T (0, 0))
  own : OwnB w B v q.1
  size : B ≤ w.heap.size
def WrS (b : Nat) (v : Value) (k : Nat) : Prop := k = b ∨ v.ownBlock = some k
def NewV (w : World) (v v' : Value) : Prop := v'.ownBlock = v.ownBlock ∨ ∃ g, v'.ownBlock = some g ∧ w.heap.size ≤ g
def WrK (T : TypeId) (B b : Nat) (v0 : Value) (w0 w : World) (q : WS) : Prop := ∃ v, Wr T B w b v q ∧ NewV w0 v0 v ∧ Kp (WrS b v0) w0 w

theorem OwnB.ne_blk {w : World} {base : Nat} {v : Value} {s : ByteArray} (h : OwnB w base v s) {b : Nat} {cs : Array Value} {T : TypeId} {f : Nat × Nat} (hb : w.heap[b]? = some (.cells cs T f)) (hT : T ≠ 5) : v.ownBlock ≠ some b := by
  intro hg
  obtain ⟨-, cs', fr, h2⟩ := h.u8 b hg
  rw [h2] at hb
  injection hb with hb
  injection hb with _ hb2 _
  exact hT hb2.symm
theorem OwnB.slice {w : World} {base : Nat} {v : Value} {s : ByteArray} (h : OwnB w base v s) : ∃ ao cap, v = .slice ao s.size cap := by
  rcases h.2 with ⟨h1, h2⟩ | ⟨g, cap, cur, hv, _⟩
  · exact ⟨none, 0, by rw [h1, h2]⟩
  · exact ⟨_, cap, hv⟩
theorem NewV.refl (w : World) (v : Value) : NewV w v v := .inl rfl
theorem NewV.trans {S : Nat → Prop} {w0 w1 : World} {v0 v1 v2 : Value} (h : NewV w0 v0 v1) (k : NewV w1 v1 v2) (hk : w0.heap.size ≤ w1.heap.size) : NewV w0 v0 v2 := by
  rcases k with k | ⟨g, k1, k2⟩
  · rcases h with h | ⟨g, h1, h2⟩
    · exact .inl (k.trans h)
    · exact .inr ⟨g, k.trans h1, h2⟩
  · exact .inr ⟨g, k1, by omega⟩
theorem NewV.set {b : Nat} {w0 : World} {v0 v1 : Value} (h : NewV w0 v0 v1) : ∀ i, WrS b v1 i → WrS b v0 i ∨ w0.heap.size ≤ i := by
  rintro i (rfl | hi)
  · exact .inl (.inl rfl)
  · rcases h with h | ⟨g, h1, h2⟩
    · exact .inl (.inr (h.symm.trans hi))
    · rw [h1] at hi
      obtain rfl := Option.some.inj hi
      exact .inr h2
theorem Wr.refl {T : TypeId} {B : Nat} {w : World} {b : Nat} {v : Value} {q : WS} (h : Wr T B w b v q) : WrK T B b v w w q := ⟨v, h, NewV.refl _ _, Kp.refl _ _⟩
theorem WrK.trans {T : TypeId} {B b : Nat} {v0 v1 : Value} {w0 w1 w2 : World} {q : WS} (hn : NewV w0 v0 v1) (hk : Kp (WrS b v0) w0 w1) (h : WrK T B b v1 w1 w2 q) : WrK T B b v0 w0 w2 q := by
  obtain ⟨v, h1, h2, h3⟩ := h
  exact ⟨v, h1, hn.trans (S := fun _ => True) h2 hk.size, hk.trans' h3 hn.set⟩
theorem Wr.lt {T : TypeId} {B : Nat} {w : World} {b : Nat} {v : Value} {q : WS} (h : Wr T B w b v q) : b < w.heap.size := (Array.getElem?_eq_some_iff.1 h.blk).1
theorem Wr.kp {T : TypeId} {B : Nat} {w w' : World} {b : Nat} {v : Value} {q : WS} {S : Nat → Prop} (h : Wr T B w b v q) (k : Kp S w w') (hS : ∀ i, WrS b v i → ¬ S i) : Wr T B w' b v q :=
  ⟨blk_kp h.blk k (hS b (.inl rfl)), h.own.kp k fun g hg => hS g (.inr hg), Nat.le_trans h.size k.size⟩
theorem Wr.below {T : TypeId} {B : Nat} {w w' : World} {b : Nat} {v : Value} {q : WS} (h : Wr T B w b v q) (k : Below w.heap.size w w') : Wr T B w' b v q :=
  h.kp (S := fun _ => False) (Kp.of_below k) fun _ _ h => h
theorem WrK.toBelow {T : TypeId} {B b : Nat} {v0 : Value} {w0 w : World} {q : WS} (h : WrK T B b v0 w0 w q) {C : Nat} (hC : C ≤ w0.heap.size) (hb : C ≤ b) (hv : ∀ g, v0.ownBlock = some g → C ≤ g) : Below C w0 w := by
  obtain ⟨v, -, -, h3⟩ := h
  refine h3.toBelow hC ?_
  rintro i (rfl | hi)
  · exact hb
  · exact hv i hi
theorem wr_new (T : TypeId) (w : World) (B : Nat) (hB : B ≤ w.heap.size) : Wr T B (w.alloc (.cells #[.slice none 0 0, .bool false] T)) w.heap.size (.slice none 0 0) (⟨#[]⟩, false) :=
  ⟨blk_new _ _, ownB_nil _ _, by rw [size_alloc]; omega⟩

/-- a reader stands in block b. -/
def Rdr (T : TypeId) (w : World) (b : Nat) (r : RS) : Prop := w.heap[b]? = some (.cells #[.string r.1, .int .i64 r.2] T (0, 0))
theorem Rdr.cells {T : TypeId} {w : World} {b : Nat} {r : RS} (h : Rdr T w b r) : (w.cell? ⟨b, 0, none⟩ = some (.string r.1) ∧ w.cell? ⟨b, 1, none⟩ = some (.int .i64 r.2)) ∧ w.frozen? ⟨b, 0, none⟩ = false ∧ w.frozen? ⟨b, 1, none⟩ = false :=
  ⟨⟨cell_of_blk h 0 rfl, cell_of_blk h 1 rfl⟩, free_of_blk h 0, free_of_blk h 1⟩

theorem below_drew {B : Nat} {w w' : World} (h : Below B w.drew w') : Below B w w' := ⟨h.os, h.tape, h.output, h.size, h.block⟩
theorem grown_drew {w w' : World} {r : Option Nat} (h : w.drew.grownBy w' r) : w.grownBy w' r := ⟨h.os, h.tape, h.output, h.size, h.block⟩

/-! ### append at a step of a region that draws its order -/
theorem step_appB {ops : Array Oper} {o : Oper} {a : Act} {w : World} {K : Act → World → Prop} {Q : Exit → Act → World → Prop} {E : Prop} (hgd : o.guard = none) (sl x : Operand)
    (ho : o.op = .call { callee := .builtin .append, args := #[sl, x], argTypes := #[41, 41] })
    (base : Nat) (v : Value) (s : ByteArray) (hs : a.eval sl = v) (hown : OwnB w base v s) (t : ByteArray) (ad : Addr) (m c : Nat) (hx : a.eval x = .slice (some ad) m c) (hm : t.size = m)
    (hc : ∀ j u, (strCells t)[j]? = some u → w.cell? (ad.add j) = some u) (hz : s.size + t.size ≤ 70368744177664) (hbase : base ≤ w.heap.size)
    (h : ∀ ao n' cap w', OwnB w' base (.slice ao n' cap) (s ++ t) → w.grownBy w' v.ownBlock → (Value.ownBlock (.slice ao n' cap) = v.ownBlock ∨ ∃ g, Value.ownBlock (.slice ao n' cap) = some g ∧ w.heap.size ≤ g) → K (a.put o.dst (.slice ao n' cap)) w') :
    if Region.wanted o (yielded ops a.tmps) = true then Oper.wp Tryd.prog o a w K Q else E := by
  have hw : Region.wanted o (yielded ops a.tmps) = true := by simp [Region.wanted, hgd]
  rw [if_pos hw]
  subst hm
  obtain ⟨i0, hi, hz0, hz1, hz2⟩ := info_parts infoU8
  obtain ⟨v', w', hr, ho', hg, _, hat⟩ := run_append_own_at (P := Tryd.prog) w base 41 o.type 5 i0 (.int .u8 0) 1 1 Tryd.underlying41 hi hz0 hz1 hz2 rfl (by decide) v s.size (strCells s) hown ad t.size c (strCells t)
    (by rw [strCells_length, Nat.mul_one]) hc (fun u hu => by unfold strCells at hu; obtain ⟨_, _, rfl⟩ := List.mem_map.1 hu; rfl) (by unfold maxLen; omega) (by omega) hbase
  have h2 : OwnB w' base v' (s ++ t) := by
    unfold OwnB
    rw [ByteArray.size_append, strCells_append]
    exact ho'
  obtain ⟨ao, cap, rfl⟩ := h2.slice
  unfold Oper.wp execOp
  simp only [ho, resolve, invoke, builtin, Sem.run_bind, Sem.run_pure, Result.andThen_ok, List.map_toArray, List.map_cons, List.map_nil, hs, hx, hr]
  exact h _ _ _ _ h2 hg (hat.imp (fun h => h) fun h => ⟨_, h, Nat.le_refl _⟩)
theorem appS_where {w : World} {base : Nat} {s : ByteArray} (ty : TypeId) (v : Value) (hO : OwnB w base v s) (t : ByteArray) (v' : Value) (w' : World) (hl : s.size + t.size ≤ 70368744177664)
    (h : (Builtin.append_ #[41, 9] ty #[v, .string t]).run Tryd.prog w = .ok v' w') : v'.ownBlock = v.ownBlock ∨ v'.ownBlock = some w.heap.size := by
  obtain ⟨i0, hi, hz0, hz1, hz2⟩ := info_parts infoU8
  have h5 : ¬ ((9223372036854775807 : Int) < (s.size : Int) + (t.size : Int)) := by omega
  have hload : ∀ g c, v = .slice (some ⟨g, 0, none⟩) s.size c → ∃ A, (loadCellsFrom ⟨g, 0, none⟩ 0 s.size #[]).run Tryd.prog w.drew = .ok A w.drew := by
    intro g c hv
    rcases hO.2 with ⟨h1, _⟩ | ⟨g', cap, cur, h1, hb, hh, hc, hm, hz, ht⟩
    · rw [h1] at hv; cases hv
    · rw [h1] at hv
      injection hv with e1 _ _
      injection e1 with e1
      injection e1 with e1 _ _
      subst e1
      have h4 := run_loadCells_list (P := Tryd.prog) (w := w.drew) ⟨g', 0, none⟩ (strCells s) (fun j u hu => by
        have hadd : (⟨g', 0, none⟩ : Addr).add j = ⟨g', j, none⟩ := by unfold Addr.add; split <;> simp_all
        rw [hadd]
        refine cell_of_blk (w := w.drew) hh j ?_
        rw [← ht, List.getElem?_take] at hu
        split at hu
        · rw [← Array.getElem?_toList]; exact hu
        · cases hu)
      rw [strCells_length] at h4
      exact ⟨_, h4⟩
  obtain ⟨ad, c, hv⟩ := hO.slice
  subst hv
  by_cases hr : s.size + t.size ≤ c
  · simp [Builtin.append_, run_underlying Tryd.underlying41, run_underlying Tryd.underlying9, sizeOf, typeInfo, hi, hz1, hz2, asInt, Builtin.lenOf, Builtin.firstCells, Value.cells, go_sem, hr] at h
    cases ad with
    | none =>
      simp only [Sem.run_pure] at h
      injection h with h1 h2
      subst h1
      exact .inl rfl
    | some a =>
      simp only [Sem.run_map] at h
      generalize (storeCells (a.add s.size) (List.take t.size (List.map (fun b => Value.int IntKind.u8 ↑b.toNat) t.data.toList))).run Tryd.prog w = r at h
      cases r with
      | ok x w2 =>
        simp only [Result.andThen_ok] at h
        injection h with h1 h2
        subst h1
        exact .inl rfl
      | halt x w2 => simp [Result.andThen] at h
  · have h4 : ¬ (281474976710656 < Builtin.nextslicecap (s.size + t.size) c) := by
      have := growslice_fits (need := s.size + t.size) (old := c) (bytes := 1) (by omega) (by omega)
      omega
    simp [Builtin.append_, run_underlying Tryd.underlying41, run_underlying Tryd.underlying9, sizeOf, typeInfo, hi, hz1, hz2, asInt, h5, Builtin.lenOf, Builtin.firstCells, zeroU8, Value.cells, go_sem, hr, h4] at h
    cases ad with
    | none =>
      simp only [Sem.run_pure, Result.andThen_ok] at h
      injection h with h1 h2
      subst h1
      exact .inr rfl
    | some a =>
      rcases hO.2 with ⟨h1, _⟩ | ⟨g', cap, cur, h1, _⟩
      · cases h1
      · injection h1 with e1 e2 e3
        injection e1 with e1
        subst e1
        obtain ⟨A, hA⟩ := hload g' c rfl
        simp only [hA, Result.andThen_ok] at h
        injection h with h1 h2
        subst h1
        exact .inr rfl

theorem wpList_appSw {P : Program} (w : World) {ops : Array Oper} {rest : List Oper} {o : Oper} {a : Act} {Q : Exit → Act → World → Prop} (hP : P = Tryd.prog) (hgd : o.guard = none) (sl x : Operand)
    (ho : o.op = .call { callee := .builtin .append, args := #[sl, x], argTypes := #[41, 9] })
    (base : Nat) (v : Value) (s : ByteArray) (hs : a.eval sl = v) (hown : OwnB w base v s) (t : ByteArray) (hx : a.eval x = .string t) (hz : s.size + t.size ≤ 70368744177664) (hbase : base ≤ w.heap.size)
    (h : ∀ ao n' cap w', OwnB w' base (.slice ao n' cap) (s ++ t) → w.grownBy w' v.ownBlock → (Value.ownBlock (.slice ao n' cap) = v.ownBlock ∨ ∃ g, Value.ownBlock (.slice ao n' cap) = some g ∧ w.heap.size ≤ g) → wpList P ops Q rest (a.put o.dst (.slice ao n' cap)) w') : wpList P ops Q (o :: rest) a w := by
  subst hP
  refine wpList_plain hgd fun K hK => ?_
  obtain ⟨v', w', hr, h2, h3⟩ := run_appS (w := w) o.type hown t hz hbase
  have hat := appS_where o.type v hown t v' w' hz hr
  obtain ⟨ao, cap, rfl⟩ := h2.slice
  unfold Oper.wp execOp
  simp only [ho, resolve, invoke, builtin, Sem.run_bind, Sem.run_pure, Result.andThen_ok, List.map_toArray, List.map_cons, List.map_nil, hs, hx, hr]
  exact hK _ _ (h _ _ _ _ h2 h3 (hat.imp (fun h => h) fun h => ⟨_, h, Nat.le_refl _⟩))
theorem step_appS {ops : Array Oper} {o : Oper} {a : Act} {w : World} {K : Act → World → Prop} {Q : Exit → Act → World → Prop} {E : Prop} (hgd : o.guard = none) (sl x : Operand)
    (ho : o.op = .call { callee := .builtin .append, args := #[sl, x], argTypes := #[41, 9] })
    (base : Nat) (v : Value) (s : ByteArray) (hs : a.eval sl = v) (hown : OwnB w base v s) (t : ByteArray) (hx : a.eval x = .string t) (hz : s.size + t.size ≤ 70368744177664) (hbase : base ≤ w.heap.size)
    (h : ∀ ao n' cap w', OwnB w' base (.slice ao n' cap) (s ++ t) → w.grownBy w' v.ownBlock → (Value.ownBlock (.slice ao n' cap) = v.ownBlock ∨ ∃ g, Value.ownBlock (.slice ao n' cap) = some g ∧ w.heap.size ≤ g) → K (a.put o.dst (.slice ao n' cap)) w') :
    if Region.wanted o (yielded ops a.tmps) = true then Oper.wp Tryd.prog o a w K Q else E := by
  have hw : Region.wanted o (yielded ops a.tmps) = true := by simp [Region.wanted, hgd]
  rw [if_pos hw]
  obtain ⟨v', w', hr, h2, h3⟩ := run_appS (w := w) o.type hown t hz hbase
  have hat := appS_where o.type v hown t v' w' hz hr
  obtain ⟨ao, cap, rfl⟩ := h2.slice
  unfold Oper.wp execOp
  simp only [ho, resolve, invoke, builtin, Sem.run_bind, Sem.run_pure, Result.andThen_ok, List.map_toArray, List.map_cons, List.map_nil, hs, hx, hr]
  exact h _ _ _ _ h2 h3 (hat.imp (fun h => h) fun h => ⟨_, h, Nat.le_refl _⟩)

theorem wNum_size (q : WS) (x : Int) (n : Nat) : (wNum q x n).1.size ≤ q.1.size + n := by
  unfold wNum
  split
  · exact Nat.le_add_right _ _
  · show (q.1 ++ numB x n).size ≤ _
    rw [ByteArray.size_append, numB, numTop_size]
    exact Nat.le_refl _
theorem wrk_app' {T : TypeId} {B b : Nat} {v0 v : Value} {w0 wr w' : World} {s t : ByteArray} {bad : Bool} {ao : Option Addr} {n cap : Nat} (hW : Wr T B wr b v (s, bad)) (hn : NewV w0 v0 v) (hk : Kp (WrS b v0) w0 wr) (hT : T ≠ 5)
    (ho : OwnB w' B (.slice ao n cap) (s ++ t)) (hg : wr.grownBy w' v.ownBlock) (hv : Value.ownBlock (.slice ao n cap) = v.ownBlock ∨ ∃ g, Value.ownBlock (.slice ao n cap) = some g ∧ wr.heap.size ≤ g) :
    WrK T B b v0 w0 (w'.setCell ⟨b, 0, none⟩ (.slice ao n cap)) (s ++ t, bad) := by
  have hne : v.ownBlock ≠ some b := hW.own.ne_blk hW.blk hT
  have hlt := hW.lt
  have hb1 : w'.heap[b]? = some (.cells #[v, .bool bad] T (0, 0)) := (hg.block b hlt (fun e => hne e.symm)).trans hW.blk
  have hne' : Value.ownBlock (.slice ao n cap) ≠ some b := ho.ne_blk hb1 hT
  have hk1 : Kp (WrS b v) wr w' := (Kp.refl _ _).grown hg (fun k hk => .inl (.inr hk))
  have hk2 : Kp (WrS b v) wr (w'.setCell ⟨b, 0, none⟩ (.slice ao n cap)) := hk1.setCell (p := ⟨b, 0, none⟩) (.inl (.inl rfl)) _
  refine WrK.trans hn hk ⟨.slice ao n cap, ⟨blk_set hb1 _, ho.of_block fun g hg2 => Below.heap_setCell _ _ _ _ fun e => ?_, ?_⟩, hv, hk2⟩
  · rw [e] at hg2
    exact hne' hg2
  · exact Nat.le_trans hW.size hk2.size
theorem wrk_bad {T : TypeId} {B b : Nat} {v : Value} {w : World} {q : WS} (h : Wr T B w b v q) (hT : T ≠ 5) : WrK T B b v w (w.setCell ⟨b, 1, none⟩ (.bool true)) (q.1, true) := by
  have hne : v.ownBlock ≠ some b := h.own.ne_blk h.blk hT
  refine ⟨v, ⟨blk_set h.blk _, h.own.of_block fun g hg => Below.heap_setCell _ _ _ _ fun e => ?_, by simp [World.setCell]; exact h.size⟩, NewV.refl _ _, (Kp.refl _ _).setCell (p := ⟨b, 1, none⟩) (.inl (.inl rfl)) _⟩
  rw [e] at hg
  exact hne hg
theorem blk_free {w : World} {b : Nat} {c : Array Value} {t : TypeId} (h : w.heap[b]? = some (.cells c t (0, 0))) (i : Nat) : w.frozen? ⟨b, i, none⟩ = false := free_of_blk h i
theorem grown_blk {w w1 : World} {b : Nat} {cs : Array Value} {T : TypeId} {v : Value} (h : w.heap[b]? = some (.cells cs T (0, 0))) (hg : w.grownBy w1 v.ownBlock) (hne : v.ownBlock ≠ some b) : w1.heap[b]? = some (.cells cs T (0, 0)) :=
  (hg.block b (Array.getElem?_eq_some_iff.1 h).1 (fun e => hne e.symm)).trans h


/-- a writer of a call's own goes on: where it stands, the blocks that stay as they are, and the call's frame. -/
structure WG (T : TypeId) (B : Nat) (w0 w : World) (b : Nat) (L : List (Nat × Array Value × TypeId)) (q : WS) : Prop where
  ex : ∃ v, Wr T B w b v q
  par : ∀ x ∈ L, w.heap[x.1]? = some (.cells x.2.1 x.2.2 (0, 0)) ∧ x.2.2 ≠ 5 ∧ x.1 ≠ b
  below : Below B w0 w
  hb : B ≤ b
theorem WG.step {T : TypeId} {B : Nat} {w0 w w' : World} {b : Nat} {L : List (Nat × Array Value × TypeId)} {q q' : WS} {v : Value} (H : WG T B w0 w b L q) (hv : Wr T B w b v q) (k : WrK T B b v w w' q') : WG T B w0 w' b L q' := by
  have hbl := k.toBelow hv.size H.hb (fun g hg => (hv.own.lt g hg).1)
  obtain ⟨v', h1, h2, h3⟩ := k
  refine ⟨⟨v', h1⟩, fun x hx => ?_, H.below.trans hbl, H.hb⟩
  obtain ⟨g1, g2, g3⟩ := H.par x hx
  refine ⟨blk_kp g1 h3 ?_, g2, g3⟩
  rintro (h | h)
  · exact g3 h
  · exact hv.own.ne_blk g1 g2 h
theorem WG.later {T : TypeId} {B : Nat} {w0 w w' : World} {b : Nat} {L : List (Nat × Array Value × TypeId)} {q : WS} (H : WG T B w0 w b L q) (k : Below w.heap.size w w') : WG T B w0 w' b L q := by
  obtain ⟨v, hv⟩ := H.ex
  exact ⟨⟨v, hv.below k⟩, fun x hx => ⟨blk_later (H.par x hx).1 k, (H.par x hx).2⟩, H.below.trans (k.mono hv.size), H.hb⟩
theorem wg_new (T : TypeId) {B : Nat} {w0 w : World} {L : List (Nat × Array Value × TypeId)} (hbel : Below B w0 w) (hB : B ≤ w.heap.size) (hL : ∀ x ∈ L, w.heap[x.1]? = some (.cells x.2.1 x.2.2 (0, 0)) ∧ x.2.2 ≠ 5) :
    WG T B w0 (w.alloc (.cells #[.slice none 0 0, .bool false] T)) w.heap.size L (⟨#[]⟩, false) :=
  ⟨⟨_, wr_new T w B hB⟩, fun x hx => ⟨blk_alloc (hL x hx).1 _, (hL x hx).2, Nat.ne_of_lt (Array.getElem?_eq_some_iff.1 (hL x hx).1).1⟩, hbel.alloc hB _, hB⟩
end Go.Proofs.YtffolbdimkhmmaaDoor
