import Derived.Test.YtffolbdimkhmmaaDoorHxV
import Derived.Test.YtffolbdimkhmmaaDoorVa
import Derived.Lib.SplitLaws
import Derived.Lib.AtoiAll
import Derived.Lib.ItoaNum
import Derived.Lib.FieldsP
import Derived.Lib.TrimUEq
import Derived.Lib.Join
set_option linter.unusedVariables false
set_option linter.unusedSimpArgs false
namespace Go.Proofs.YtffolbdimkhmmaaDoor
open Go Go.RowKit Go.Lib

/-! ### hex told is read; cut at every newline -/
theorem unD_dig (k : Nat) (h : k < 16) : unD (dig16 k) = k := by
  have : ∀ i : Fin 16, unD (dig16 i.1) = i.1 := by decide +kernel
  exact this ⟨k, h⟩
theorem oneB_of (c : UInt8) : oneB (16 * ((c.toNat / 16 : Nat) : Int) + ((c.toNat % 16 : Nat) : Int)) = ⟨#[c]⟩ := by
  have e : 16 * ((c.toNat / 16 : Nat) : Int) + ((c.toNat % 16 : Nat) : Int) = (c.toNat : Int) := by omega
  rw [e]
  unfold oneB b8
  have h := c.toNat_lt
  have e2 : ((c.toNat : Int) % 256).toNat = c.toNat := by omega
  rw [e2]
  simp
theorem unhexGo_hex : ∀ (l : List UInt8) (acc : ByteArray), unhexGo acc (hexL l) = some (acc ++ ⟨l.toArray⟩)
  | [], acc => by
    show some acc = _
    congr 1
    exact (ByteArray.append_empty).symm
  | c :: r, acc => by
    have h := c.toNat_lt
    rw [hexL, unhexGo_cons, unD_dig _ (by omega), unD_dig _ (by omega), if_neg (by omega), unhexGo_hex r, oneB_of]
    congr 1
    apply ba_ext
    simp
theorem unhex_hex (r : ByteArray) : unhexB (hexB r) = (r, true) := by
  refine unhexB_some ?_
  show unhexGo ⟨#[]⟩ (hexL r.data.toList) = _
  rw [unhexGo_hex]
  exact congrArg some (ba_ext (by simp))
def cutsL : List UInt8 → List (List UInt8)
  | [] => [[]]
  | c :: r => if c = 10 then [] :: cutsL r else match cutsL r with
    | p :: q => (c :: p) :: q
    | [] => [[c]]
theorem cutsL_ne (l : List UInt8) : cutsL l ≠ [] := by
  cases l with
  | nil => simp [cutsL]
  | cons c r =>
    unfold cutsL
    split
    · simp
    · split <;> simp
theorem cutsL_clean : ∀ (p : List UInt8), (∀ c ∈ p, c ≠ 10) → cutsL p = [p]
  | [], _ => rfl
  | c :: r, h => by
    have hc := h c (by simp)
    unfold cutsL
    rw [if_neg hc, cutsL_clean r (fun d hd => h d (by simp [hd]))]
theorem cutsL_app : ∀ (p r : List UInt8), (∀ c ∈ p, c ≠ 10) → cutsL (p ++ 10 :: r) = p :: cutsL r
  | [], r, _ => by simp [cutsL]
  | c :: p, r, h => by
    have hc := h c (by simp)
    rw [List.cons_append, cutsL, if_neg hc, cutsL_app p r (fun d hd => h d (by simp [hd]))]
theorem split_nl (s : List UInt8) : Lib.split s [10] = cutsL s := by
  induction s with
  | nil => simp [Lib.split, cutsL, Lib.count_one, Lib.splitK]
  | cons c r ih =>
    unfold Lib.split at ih ⊢
    by_cases hc : c = 10
    · subst hc
      have hix : index (10 :: r) [10] = 0 := by rw [index]; simp [List.isPrefixOf]
      rw [count_cons_eq, Nat.add_comm, Lib.splitK, hix, cutsL, if_pos rfl]
      simpa using ih
    · have hp : ([10] : List UInt8).isPrefixOf (c :: r) = false := by simp [List.isPrefixOf, Ne.symm hc]
      have hix : index (c :: r) [10] = if index r [10] == -1 then -1 else index r [10] + 1 := by rw [index, hp]; simp
      rw [count_cons_ne c 10 r hc, cutsL, if_neg hc, ← ih]
      by_cases hm : index r [10] = -1
      · have hcn : count r [10] = 0 := count_miss hm
        rw [hcn]
        simp [Lib.splitK]
      · have hge := index_ge r [10]
        obtain ⟨j, hj⟩ : ∃ j : Nat, index r [10] = j := ⟨(index r [10]).toNat, by omega⟩
        have hk := count_hit (by simp) hj
        obtain ⟨m, hm2⟩ : ∃ m, count r [10] = m + 1 := ⟨count r [10] - 1, by omega⟩
        have hix' : index (c :: r) [10] = ((j + 1 : Nat) : Int) := by rw [hix, if_neg (fun e => hm (beq_iff_eq.1 e)), hj]; omega
        have hb1 : ¬ (((j + 1 : Nat) : Int) == -1) = true := fun e => by have := beq_iff_eq.1 e; omega
        have hb2 : ¬ (((j : Nat) : Int) == -1) = true := fun e => by have := beq_iff_eq.1 e; omega
        rw [hm2, Lib.splitK, Lib.splitK, hix', hj, if_neg hb1, if_neg hb2]
        simp


/-! ### the number of a word -/
def numL (w : List UInt8) : Option Int := match atoiAll w with
  | .ok v => if itoa v = w then some v else none
  | _ => none
theorem parse_app : ∀ (l r : List UInt8) (a : Nat), parseUint10 a (l ++ r) = match parseUint10 a l with | .ok b => parseUint10 b r | .syntax => .syntax | .range => .range
  | [], r, a => by simp [parseUint10]
  | c :: l, r, a => by
    simp only [List.cons_append, parseUint10]
    split
    · split
      · rfl
      · split
        · rfl
        · exact parse_app l r _
    · rfl
theorem parse_dec : ∀ u : Nat, u < 18446744073709551616 → parseUint10 0 (decDigits u) = .ok u := by
  intro u
  induction u using Nat.strongRecOn with
  | _ u ih =>
    intro h
    rw [decDigits]
    split
    · rename_i h10
      have e : (UInt8.ofNat (48 + u)).toNat = 48 + u := by simp; omega
      simp only [parseUint10, e]
      rw [if_pos (by omega), if_neg (by omega), if_neg (by omega)]
      congr 1; omega
    · rename_i h10
      have e : (UInt8.ofNat (48 + u % 10)).toNat = 48 + u % 10 := by simp; omega
      rw [parse_app, ih (u / 10) (by omega) (by omega)]
      simp only [parseUint10, e]
      rw [if_pos (by omega), if_neg (by omega), if_neg (by omega)]
      congr 1; omega
theorem dec_ne (u : Nat) : decDigits u ≠ [] := by
  rw [decDigits]
  split <;> simp
theorem dec_all : ∀ u : Nat, ∀ c ∈ decDigits u, 48 ≤ c.toNat ∧ c.toNat ≤ 57 := by
  intro u
  induction u using Nat.strongRecOn with
  | _ u ih =>
    intro c hc
    rw [decDigits] at hc
    split at hc
    · rename_i h10
      have e : (UInt8.ofNat (48 + u)).toNat = 48 + u := by simp; omega
      rcases List.mem_singleton.1 hc with rfl
      omega
    · rename_i h10
      have e : (UInt8.ofNat (48 + u % 10)).toNat = 48 + u % 10 := by simp; omega
      rcases List.mem_append.1 hc with h | h
      · exact ih (u / 10) (by omega) c h
      · rcases List.mem_singleton.1 h with rfl
        omega
theorem itoa_all (n : Int) : ∀ c ∈ itoa n, c.toNat = 45 ∨ (48 ≤ c.toNat ∧ c.toNat ≤ 57) := by
  intro c hc
  unfold itoa at hc
  split at hc
  · rcases List.mem_cons.1 hc with rfl | h
    · left; rfl
    · exact .inr (dec_all _ c h)
  · exact .inr (dec_all _ c hc)
theorem itoa_ne (n : Int) : itoa n ≠ [] := by
  unfold itoa
  split
  · simp
  · exact dec_ne _
theorem atoi_itoa (n : Int) (h0 : -9223372036854775808 ≤ n) (h1 : n ≤ 9223372036854775807) : atoiAll (itoa n) = .ok n := by
  unfold itoa
  split
  · rename_i hn
    have hm : parseMag (decDigits n.natAbs) = .ok n.natAbs := by
      unfold parseMag
      rw [if_neg (dec_ne _), parse_dec _ (by omega)]
    have h45 : (45 : UInt8).toNat = 45 := rfl
    unfold atoiAll
    simp only [h45]
    rw [if_pos (.inr trivial), hm]
    simp only [not_true_eq_false, false_and, if_false, true_and, if_true]
    rw [if_neg (by omega)]
    congr 1; omega
  · rename_i hn
    obtain ⟨c, r, hcr⟩ : ∃ c r, decDigits n.toNat = c :: r := by
      cases h : decDigits n.toNat with
      | nil => exact absurd h (dec_ne _)
      | cons c r => exact ⟨c, r, rfl⟩
    have hc := dec_all n.toNat c (by rw [hcr]; simp)
    have hm : parseMag (decDigits n.toNat) = .ok n.toNat := by
      unfold parseMag
      rw [if_neg (dec_ne _), parse_dec _ (by omega)]
    rw [hcr] at hm ⊢
    unfold atoiAll
    simp only []
    rw [if_neg (by omega), hm]
    have h45 : ¬ c.toNat = 45 := by omega
    simp only [h45, not_false_eq_true, true_and, false_and, if_false]
    rw [if_neg (by omega)]
    congr 1; omega
theorem atoi_range {l : List UInt8} {v : Int} (h : atoiAll l = .ok v) : -9223372036854775808 ≤ v ∧ v ≤ 9223372036854775807 := by
  unfold atoiAll at h
  split at h
  · cases h
  · rename_i c r
    simp only [] at h
    split at h
    · cases h
    · cases h
    · rename_i u hu
      split at h
      · cases h
      · split at h
        · cases h
        · rename_i h1 h2
          injection h with h
          split at h <;> omega
theorem numL_itoa (n : Int) (h0 : -9223372036854775808 ≤ n) (h1 : n ≤ 9223372036854775807) : numL (itoa n) = some n := by
  unfold numL
  rw [atoi_itoa n h0 h1]
  exact if_pos rfl
theorem numL_some {w : List UInt8} {n : Int} (h : numL w = some n) : itoa n = w ∧ -9223372036854775808 ≤ n ∧ n ≤ 9223372036854775807 := by
  unfold numL at h
  split at h
  · rename_i v hv
    split at h
    · rename_i hw
      obtain rfl := Option.some.inj h
      exact ⟨hw, atoi_range hv⟩
    · cases h
  · cases h

/-! ### .. as the document reads it -/
def w64 (x : Int) : Int := (x + 9223372036854775808) % 18446744073709551616 - 9223372036854775808
def refD (n : Int) (c : UInt8) : Int := if 48 ≤ c.toNat ∧ c.toNat ≤ 57 then w64 (10 * n + (c.toNat - 48)) else n
def refV (w : List UInt8) : Int := if w.head? = some 45 then w64 (-(w.foldl refD 0)) else w.foldl refD 0
def refN (w : List UInt8) : Option Int := if itoa (refV w) = w then some (refV w) else none
theorem w64_in {x : Int} (h0 : -9223372036854775808 ≤ x) (h1 : x ≤ 9223372036854775807) : w64 x = x := by unfold w64; omega
theorem w64_range (x : Int) : -9223372036854775808 ≤ w64 x ∧ w64 x ≤ 9223372036854775807 := by unfold w64; omega
theorem refD_range (l : List UInt8) : ∀ n : Int, -9223372036854775808 ≤ n → n ≤ 9223372036854775807 → -9223372036854775808 ≤ l.foldl refD n ∧ l.foldl refD n ≤ 9223372036854775807 := by
  induction l with
  | nil => intro n h0 h1; exact ⟨h0, h1⟩
  | cons c l ih =>
    intro n h0 h1
    rw [List.foldl_cons]
    have : -9223372036854775808 ≤ refD n c ∧ refD n c ≤ 9223372036854775807 := by
      unfold refD
      split
      · exact w64_range _
      · exact ⟨h0, h1⟩
    exact ih _ this.1 this.2
theorem refV_range (w : List UInt8) : -9223372036854775808 ≤ refV w ∧ refV w ≤ 9223372036854775807 := by
  unfold refV
  split
  · exact w64_range _
  · exact refD_range w 0 (by omega) (by omega)
theorem refD_dec : ∀ u : Nat, (decDigits u).foldl refD 0 = w64 u := by
  intro u
  induction u using Nat.strongRecOn with
  | _ u ih =>
    rw [decDigits]
    split
    · rename_i h10
      have e : (UInt8.ofNat (48 + u)).toNat = 48 + u := by simp; omega
      simp only [List.foldl_cons, List.foldl_nil, refD, e]
      rw [if_pos (by omega)]
      congr 1; omega
    · rename_i h10
      have e : (UInt8.ofNat (48 + u % 10)).toNat = 48 + u % 10 := by simp; omega
      rw [List.foldl_append, ih (u / 10) (by omega)]
      simp only [List.foldl_cons, List.foldl_nil, refD, e]
      rw [if_pos (by omega)]
      unfold w64; omega
theorem refV_itoa (n : Int) (h0 : -9223372036854775808 ≤ n) (h1 : n ≤ 9223372036854775807) : refV (itoa n) = n := by
  unfold refV itoa
  by_cases hn : n < 0
  · rw [if_pos hn]
    have e : (45 :: decDigits n.natAbs).foldl refD 0 = w64 n.natAbs := by
      rw [List.foldl_cons, ← refD_dec]
      rfl
    rw [e]
    show (if some (45 : UInt8) = some 45 then _ else _) = _
    rw [if_pos rfl]
    unfold w64; omega
  · rw [if_neg hn, refD_dec]
    obtain ⟨c, r, hcr⟩ : ∃ c r, decDigits n.toNat = c :: r := by
      cases h : decDigits n.toNat with
      | nil => exact absurd h (dec_ne _)
      | cons c r => exact ⟨c, r, rfl⟩
    have hc := dec_all n.toNat c (by rw [hcr]; simp)
    rw [hcr, List.head?_cons, if_neg (fun e => by have := Option.some.inj e; subst this; have : (45 : UInt8).toNat = 45 := rfl; omega)]
    unfold w64; omega
theorem refN_eq (w : List UInt8) : refN w = numL w := by
  unfold refN
  by_cases h : itoa (refV w) = w
  · rw [if_pos h]
    have hr := refV_range w
    have := numL_itoa (refV w) hr.1 hr.2
    rw [h] at this
    exact this.symm
  · rw [if_neg h]
    cases hn : numL w with
    | none => rfl
    | some v =>
      obtain ⟨e, h0, h1⟩ := numL_some hn
      have := refV_itoa v h0 h1
      rw [e] at this
      rw [this] at h
      exact absurd e h


/-! ### the words of a line -/
def wordsGo : List UInt8 → List UInt8 → List (List UInt8)
  | cur, [] => if cur = [] then [] else [cur]
  | cur, c :: r => if c = 32 then (if cur = [] then wordsGo [] r else cur :: wordsGo [] r) else wordsGo (cur ++ [c]) r
def wordsL (l : List UInt8) : List (List UInt8) := wordsGo [] l
theorem wordsGo_app : ∀ (l r cur : List UInt8), (∀ c ∈ l, c ≠ 32) → wordsGo cur (l ++ r) = wordsGo (cur ++ l) r
  | [], r, cur, _ => by simp
  | c :: l, r, cur, h => by
    rw [List.cons_append, wordsGo, if_neg (h c (by simp)), wordsGo_app l r (cur ++ [c]) (fun d hd => h d (by simp [hd]))]
    simp
theorem dec32 (s : ByteArray) (pos : Nat) (h : pos < s.size) :
    ((Utf8.decode s pos).1 = 32 ∧ s.data.toList.getD pos 0 = 32 ∧ (Utf8.decode s pos).2 = 1) ∨
    ((Utf8.decode s pos).1 ≠ 32 ∧ 1 ≤ (Utf8.decode s pos).2 ∧ pos + (Utf8.decode s pos).2 ≤ s.size ∧ ∀ j, j < (Utf8.decode s pos).2 → s.data.toList.getD (pos + j) 0 ≠ 32) := by
  have hl : s.data.toList.length = s.size := Array.length_toList
  rw [decode_N, hl]
  have hbyte : ∀ c : UInt8, c.toNat ≠ 32 → c ≠ 32 := fun c hc e => hc (by rw [e]; rfl)
  generalize s.data.toList = L at hl
  have e0 : ∀ j, j < 1 → pos + j = pos := by omega
  by_cases h32 : (L.getD pos 0).toNat = 32
  · left
    unfold decodeN
    rw [h32]
    refine ⟨rfl, ?_, rfl⟩
    have : L.getD pos 0 = UInt8.ofNat 32 := by rw [← h32]; simp
    exact this
  · right
    have one : ∀ j, j < 1 → L.getD (pos + j) 0 ≠ 32 := fun j hj => by
      obtain rfl : j = 0 := by omega
      exact hbyte _ h32
    have cont : ∀ k, (L.getD (pos + k) 0).toNat / 64 = 2 → L.getD (pos + k) 0 ≠ 32 := fun k hk => hbyte _ (by omega)
    unfold decodeN
    split
    · exact ⟨h32, Nat.le_refl _, by show pos + 1 ≤ _; omega, one⟩
    · split
      · rename_i h0 h1
        split
        · rename_i h2
          refine ⟨by omega, by omega, by show pos + 2 ≤ _; omega, fun j hj => ?_⟩
          rcases (show j = 0 ∨ j = 1 by omega) with rfl | rfl
          · exact hbyte _ h32
          · exact cont 1 h1.2.2
        · exact ⟨by omega, Nat.le_refl _, by show pos + 1 ≤ _; omega, one⟩
      · split
        · rename_i h0 h1 h2
          split
          · rename_i h3
            refine ⟨by omega, by omega, by show pos + 3 ≤ _; omega, fun j hj => ?_⟩
            rcases (show j = 0 ∨ j = 1 ∨ j = 2 by omega) with rfl | rfl | rfl
            · exact hbyte _ h32
            · exact cont 1 h2.2.1.2
            · exact cont 2 h2.2.2.2
          · exact ⟨by omega, Nat.le_refl _, by show pos + 1 ≤ _; omega, one⟩
        · split
          · rename_i h0 h1 h2 h3
            split
            · rename_i h4
              refine ⟨by omega, by omega, by show pos + 4 ≤ _; omega, fun j hj => ?_⟩
              rcases (show j = 0 ∨ j = 1 ∨ j = 2 ∨ j = 3 by omega) with rfl | rfl | rfl | rfl
              · exact hbyte _ h32
              · exact cont 1 h3.2.1.2
              · exact cont 2 h3.2.2.1.2
              · exact cont 3 h3.2.2.2.2
            · exact ⟨by omega, Nat.le_refl _, by show pos + 1 ≤ _; omega, one⟩
          · exact ⟨by omega, Nat.le_refl _, by show pos + 1 ≤ _; omega, one⟩
def pc (L : List UInt8) (x : Nat × Nat) : List UInt8 := (L.drop x.1).take (x.2 - x.1)
def opn (L : List UInt8) (st : Option Nat) (pos : Nat) : List UInt8 := match st with
  | none => []
  | some a => pc L (a, pos)
theorem getD_of {L : List UInt8} {i : Nat} (h : i < L.length) : L.getD i 0 = L[i] := by rw [List.getD_eq_getElem?_getD, List.getElem?_eq_getElem h]; rfl
theorem seg_ne {L : List UInt8} {pos w : Nat} (h : ∀ j, j < w → L.getD (pos + j) 0 ≠ 32) : ∀ c ∈ (L.drop pos).take w, c ≠ 32 := by
  intro c hc
  obtain ⟨j, hj, rfl⟩ := List.mem_iff_getElem.1 hc
  rw [List.length_take, List.length_drop] at hj
  have := h j (by omega)
  rw [getD_of (by omega)] at this
  rw [List.getElem_take, List.getElem_drop]
  exact this
theorem pc_ne {L : List UInt8} {a b : Nat} (h : a < b) (hb : b ≤ L.length) : pc L (a, b) ≠ [] := by
  intro e
  have := congrArg List.length e
  simp [pc] at this
  omega
theorem pc_app {L : List UInt8} {a b w : Nat} (h : a ≤ b) : pc L (a, b) ++ (L.drop b).take w = pc L (a, b + w) := by
  unfold pc
  show (L.drop a).take (b - a) ++ _ = (L.drop a).take (b + w - a)
  rw [show b + w - a = (b - a) + w by omega, List.take_add, List.drop_drop, show a + (b - a) = b by omega]
theorem spans_step (p : Nat → Bool) (s : ByteArray) (f pos : Nat) (st : Option Nat) (acc : List (Nat × Nat)) (h : pos < s.size) : spansFromP p s (f + 1) pos st acc =
    if p (Utf8.decode s pos).1 = true then
        (match st with
         | some a => spansFromP p s f (pos + (Utf8.decode s pos).2) none (acc ++ [(a, pos)])
         | none => spansFromP p s f (pos + (Utf8.decode s pos).2) none acc)
       else
        (match st with
         | some a => spansFromP p s f (pos + (Utf8.decode s pos).2) (some a) acc
         | none => spansFromP p s f (pos + (Utf8.decode s pos).2) (some pos) acc) := by
  conv => lhs; unfold spansFromP
  rw [if_pos h]
  split <;> cases st <;> rfl
theorem spans_end (s : ByteArray) (f : Nat) (st : Option Nat) (acc : List (Nat × Nat)) (hst : ∀ a, st = some a → a < s.size) :
    (closeSpans s (spansFromP (fun x => x == 32) s f s.size st acc)).map (pc s.data.toList) = acc.map (pc s.data.toList) ++ wordsGo (opn s.data.toList st s.size) (s.data.toList.drop s.size) := by
  have hl : s.data.toList.length = s.size := Array.length_toList
  have hlt : ¬ s.size < s.size := by omega
  rw [spansFromP_end _ _ _ _ _ _ hlt, List.drop_eq_nil_of_le (by omega)]
  cases st with
  | none =>
    show acc.map _ = acc.map _ ++ if ([] : List UInt8) = [] then _ else _
    rw [if_pos rfl]
    simp
  | some a =>
    have ha := hst a rfl
    show (acc ++ [(a, s.size)]).map _ = acc.map _ ++ if pc s.data.toList (a, s.size) = [] then _ else _
    rw [if_neg (pc_ne ha (by omega))]
    simp [opn]
theorem spans_words (s : ByteArray) : ∀ (f pos : Nat) (st : Option Nat) (acc : List (Nat × Nat)), s.size ≤ pos + f → pos ≤ s.size → (∀ a, st = some a → a < pos) →
    (closeSpans s (spansFromP (fun x => x == 32) s f pos st acc)).map (pc s.data.toList) = acc.map (pc s.data.toList) ++ wordsGo (opn s.data.toList st pos) (s.data.toList.drop pos) := by
  intro f
  induction f with
  | zero =>
    intro pos st acc hf hp hst
    have hl : s.data.toList.length = s.size := Array.length_toList
    obtain rfl : pos = s.size := by omega
    exact spans_end s 0 st acc hst
  | succ f' ih =>
    intro pos st acc hf hp hst
    have hl : s.data.toList.length = s.size := Array.length_toList
    by_cases hlt : pos < s.size
    · rw [spans_step _ _ _ _ _ _ hlt]
      rcases dec32 s pos hlt with ⟨h1, h2, h3⟩ | ⟨h1, h2, h3, h4⟩
      · rw [h1, h3]
        have hd : s.data.toList.drop pos = 32 :: s.data.toList.drop (pos + 1) := by
          rw [List.drop_eq_getElem_cons (by omega)]
          rw [getD_of (by omega)] at h2
          rw [h2]
        rw [if_pos (by rfl), hd, wordsGo, if_pos rfl]
        cases st with
        | none =>
          show (closeSpans s (spansFromP _ s f' (pos + 1) none acc)).map _ = _
          rw [ih (pos + 1) none acc (by omega) (by omega) (fun a h => by cases h)]
          show _ = acc.map _ ++ if ([] : List UInt8) = [] then _ else _
          rw [if_pos rfl]
          rfl
        | some a =>
          have ha := hst a rfl
          show (closeSpans s (spansFromP _ s f' (pos + 1) none (acc ++ [(a, pos)]))).map _ = _
          rw [ih (pos + 1) none _ (by omega) (by omega) (fun a h => by cases h)]
          show _ = acc.map _ ++ if pc s.data.toList (a, pos) = [] then _ else _
          rw [if_neg (pc_ne ha (by omega))]
          simp [opn]
      · have hd : s.data.toList.drop pos = (s.data.toList.drop pos).take (Utf8.decode s pos).2 ++ s.data.toList.drop (pos + (Utf8.decode s pos).2) := by
          rw [← List.drop_drop, List.take_append_drop]
        rw [if_neg (fun e => h1 (by simpa using e)), hd, wordsGo_app _ _ _ (seg_ne h4)]
        cases st with
        | none =>
          show (closeSpans s (spansFromP _ s f' (pos + (Utf8.decode s pos).2) (some pos) acc)).map _ = _
          rw [ih _ (some pos) acc (by omega) h3 (fun a h => by cases h; omega)]
          have : opn s.data.toList (some pos) (pos + (Utf8.decode s pos).2) = opn s.data.toList none pos ++ (s.data.toList.drop pos).take (Utf8.decode s pos).2 := by
            show pc _ _ = [] ++ _
            unfold pc
            simp
          rw [this]
        | some a =>
          have ha := hst a rfl
          show (closeSpans s (spansFromP _ s f' (pos + (Utf8.decode s pos).2) (some a) acc)).map _ = _
          rw [ih _ (some a) acc (by omega) h3 (fun b h => by cases h; omega)]
          have : opn s.data.toList (some a) (pos + (Utf8.decode s pos).2) = opn s.data.toList (some a) pos ++ (s.data.toList.drop pos).take (Utf8.decode s pos).2 := (pc_app (by omega)).symm
          rw [this]
    · obtain rfl : pos = s.size := by omega
      exact spans_end s _ st acc hst
def wordsB (s : ByteArray) : List ByteArray := (wordsL s.data.toList).map fun l => ⟨l.toArray⟩
theorem fields_words (s : ByteArray) : goFieldsP (fun x => x == 32) s = wordsB s := by
  unfold goFieldsP wordsB
  have h := spans_words s s.size 0 none [] (by omega) (by omega) (fun a h => by cases h)
  have e : (fun x : Nat × Nat => s.extract x.1 x.2) = fun x => (⟨(pc s.data.toList x).toArray⟩ : ByteArray) := by
    funext x
    apply congrArg ByteArray.mk
    apply Array.toList_inj.1
    simp [pc]
  rw [e]
  have h2 := congrArg (List.map fun l : List UInt8 => (⟨l.toArray⟩ : ByteArray)) h
  rw [List.map_map] at h2
  exact h2


/-! ### steps and their words, without memory -/
structure StP where
  kind : Int
  a : Int
  b : Int
  n : Int
  text : ByteArray
  keep : List Int
def zst (k : Int) : StP := ⟨k, 0, 0, 0, ⟨#[]⟩, []⟩
def prB (s : ByteArray) : Bool := s.data.toList.all fun c => decide (33 ≤ c.toNat) && decide (c.toNat ≤ 126)
def tailB (w : ByteArray) : ByteArray := w.extract 1 w.size
def textP (w : ByteArray) : Option ByteArray :=
  if w = ⟨#[45]⟩ then some ⟨#[]⟩
  else if w.data.toList.head? = some 39 then (if tailB w ≠ ⟨#[]⟩ ∧ prB (tailB w) = true then some (tailB w) else none)
  else if (unhexB w).2 = true ∧ (unhexB w).1 ≠ ⟨#[]⟩ then some (unhexB w).1 else none
def wordP (s : ByteArray) : ByteArray := if s = ⟨#[]⟩ then ⟨#[45]⟩ else if prB s = true then ⟨#[39]⟩ ++ s else hexB s
def numP (w : ByteArray) : Option Int := numL w.data.toList
def setP (c : UInt8) (n : Int) (s : StP) : StP :=
  if c = 65 then { s with a := n } else if c = 66 then { s with b := n } else if c = 78 then { s with n := n } else { s with keep := s.keep ++ [n] }
def putP (c : UInt8) (w : ByteArray) (s : StP) : Option StP :=
  if c = 84 then (textP w).map fun t => { s with text := t } else (numP w).map fun n => setP c n s
def keepsP : List ByteArray → StP → Option StP
  | [], s => some s
  | w :: ws, s => match putP 75 w s with
    | none => none
    | some s' => keepsP ws s'
def fillP : List UInt8 → List ByteArray → StP → Option StP
  | [], [], s => some s
  | [], _ :: _, _ => none
  | c :: pl, ws, s => if c = 75 then (match keepsP ws s with
      | none => none
      | some s' => fillP pl [] s')
    else match ws with
      | [] => none
      | w :: r => match putP c w s with
        | none => none
        | some s' => fillP pl r s'
theorem fillP_cons (c : UInt8) (pl : List UInt8) (ws : List ByteArray) (s : StP) : fillP (c :: pl) ws s = if c = 75 then (match keepsP ws s with
      | none => none
      | some s' => fillP pl [] s')
    else match ws with
      | [] => none
      | w :: r => match putP c w s with
        | none => none
        | some s' => fillP pl r s' := by rw [fillP.eq_def]
def formsL : List (ByteArray × Nat × List UInt8) := [
  (⟨#[110, 111, 116, 104, 105, 110, 103]⟩, 0, []), (⟨#[111, 102, 102, 101, 114]⟩, 1, [78, 66, 84]), (⟨#[112, 114, 101, 115, 115]⟩, 2, [66]), (⟨#[114, 101, 102, 114, 101, 115, 104]⟩, 3, []), (⟨#[114, 111, 116, 97, 116, 101]⟩, 4, [84]),
  (⟨#[116, 105, 99, 107]⟩, 5, [78]), (⟨#[115, 121, 110, 99]⟩, 6, [65]), (⟨#[115, 112, 111, 105, 108]⟩, 7, [65, 84, 78, 66]), (⟨#[100, 114, 111, 112]⟩, 8, [65, 84]), (⟨#[112, 114, 111, 118, 105, 115, 105, 111, 110]⟩, 9, [65, 78, 84]),
  (⟨#[99, 104, 101, 99, 107]⟩, 10, [65, 66]), (⟨#[108, 111, 97, 100]⟩, 11, [65, 78, 66]), (⟨#[105, 110, 115, 116, 97, 108, 108]⟩, 12, [65]), (⟨#[98, 111, 111, 116]⟩, 13, [65]), (⟨#[99, 111, 110, 102, 105, 114, 109]⟩, 14, [65]),
  (⟨#[102, 97, 108, 108]⟩, 15, [65, 78]), (⟨#[99, 114, 97, 115, 104]⟩, 16, [65, 75]), (⟨#[104, 97, 114, 109]⟩, 17, [65, 84]), (⟨#[97, 100, 100]⟩, 18, [84])]
def formW (w : ByteArray) : Option (Nat × List UInt8) := (formsL.find? fun f => decide (f.1 = w)).map (·.2)
def formK (k : Int) : Option (ByteArray × List UInt8) := (formsL.find? fun f => decide ((f.2.1 : Int) = k)).map fun f => (f.1, f.2.2)
def stepP : List ByteArray → Option StP
  | [] => none
  | w :: r => match formW w with
    | none => none
    | some (k, pl) => fillP pl r (zst k)
def ignor (ws : List ByteArray) : Bool := match ws with
  | [] => true
  | w :: _ => decide (w.data.toList.head? = some 35)
def lnB (l : List UInt8) : ByteArray := ⟨l.toArray⟩
def trimNl (s : List UInt8) : List UInt8 := if s.getLast? = some 10 then s.dropLast else s
def linesB (s : ByteArray) : List ByteArray := (cutsL (trimNl s.data.toList)).map lnB
def goP : Nat → List ByteArray → List (StP × Nat) → List (StP × Nat) × Int × Int
  | _, [], acc => (acc, 0, 0)
  | i, l :: r, acc => if ignor (wordsB l) = true then goP (i + 1) r acc else match stepP (wordsB l) with
    | none => ([], i + 1, 16)
    | some x => goP (i + 1) r (acc ++ [(x, i + 1)])
def parseP (s : ByteArray) : List (StP × Nat) × Int × Int := if 65536 < s.size ∨ 1024 < (linesB s).length then ([], 0, 4) else goP 0 (linesB s) []

def tellC (c : UInt8) (s : StP) : List ByteArray :=
  if c = 84 then [wordP s.text] else if c = 75 then s.keep.map itoaB else [itoaB (if c = 65 then s.a else if c = 66 then s.b else s.n)]
def tellP (pl : List UInt8) (s : StP) : List ByteArray := pl.flatMap fun c => tellC c s
def lineB (ws : List ByteArray) : ByteArray := ⟨(Lib.join (ws.map (·.data.toList)) [32]).toArray⟩ ++ ⟨#[10]⟩
def lineP (x : StP) : Option ByteArray := (formK x.kind).map fun f => lineB (f.1 :: tellP f.2 x)
def tellsP : Nat → List StP → ByteArray → ByteArray × Int × Int
  | _, [], acc => (acc, 0, 0)
  | i, x :: r, acc => match lineP x with
    | none => (⟨#[]⟩, i + 1, 16)
    | some b => tellsP (i + 1) r (acc ++ b)
def textsP (l : List StP) : ByteArray × Int × Int := match tellsP 0 l ⟨#[]⟩ with
  | (b, n, e) => if e ≠ 0 then (⟨#[]⟩, n, e) else if 65536 < b.size ∨ 1024 < l.length then (⟨#[]⟩, 0, 4) else (b, 0, 0)
def bareC (c : UInt8) (s o : StP) : StP := if c = 84 then { o with text := s.text } else if c = 75 then { o with keep := s.keep } else if c = 65 then { o with a := s.a } else if c = 66 then { o with b := s.b } else { o with n := s.n }
def bareP (s : StP) : StP := match formK s.kind with
  | none => zst 0
  | some f => f.2.foldl (fun o c => bareC c s o) (zst s.kind)

/-! ### what is told is read -/
def StP.inR (s : StP) : Prop := (-9223372036854775808 ≤ s.a ∧ s.a ≤ 9223372036854775807) ∧ (-9223372036854775808 ≤ s.b ∧ s.b ≤ 9223372036854775807) ∧ (-9223372036854775808 ≤ s.n ∧ s.n ≤ 9223372036854775807) ∧ ∀ x ∈ s.keep, -9223372036854775808 ≤ x ∧ x ≤ 9223372036854775807
theorem num_itoa (n : Int) (h : -9223372036854775808 ≤ n ∧ n ≤ 9223372036854775807) : numP (itoaB n) = some n := numL_itoa n h.1 h.2
theorem hex_ne {s : ByteArray} (h : s ≠ ⟨#[]⟩) : hexB s ≠ ⟨#[]⟩ := by
  intro e
  have h1 := congrArg (fun b : ByteArray => b.data.toList.length) e
  have h2 : (hexB s).data.toList.length = 2 * s.data.toList.length := hexL_length _
  simp only [] at h1
  rw [h2] at h1
  have h3 : s.data.toList = [] := by
    cases hs : s.data.toList with
    | nil => rfl
    | cons c r => rw [hs] at h1; simp at h1
  exact h (ba_ext h3)
theorem hexL_all : ∀ (l : List UInt8), ∀ c ∈ hexL l, (48 ≤ c.toNat ∧ c.toNat ≤ 57) ∨ (97 ≤ c.toNat ∧ c.toNat ≤ 102)
  | [], c, h => by cases h
  | a :: r, c, h => by
    have hd : ∀ k : Fin 16, (48 ≤ (dig16 k.1).toNat ∧ (dig16 k.1).toNat ≤ 57) ∨ (97 ≤ (dig16 k.1).toNat ∧ (dig16 k.1).toNat ≤ 102) := by decide +kernel
    have ha := a.toNat_lt
    rcases List.mem_cons.1 h with rfl | h
    · exact hd ⟨a.toNat / 16, by omega⟩
    · rcases List.mem_cons.1 h with rfl | h
      · exact hd ⟨a.toNat % 16, by omega⟩
      · exact hexL_all r c h
theorem head_all {l : List UInt8} {p : UInt8 → Prop} (h : ∀ c ∈ l, p c) {c : UInt8} (hc : l.head? = some c) : p c := h c (by cases l with | nil => cases hc | cons d r => cases hc; simp)
theorem tail_app (s : ByteArray) : tailB (⟨#[39]⟩ ++ s) = s := by
  unfold tailB
  apply ba_ext
  rw [extract_data, ba_app]
  show ((39 :: s.data.toList).drop 1).take _ = _
  rw [List.drop_one, List.tail_cons, List.take_of_length_le]
  rw [ByteArray.size_append]
  have : s.data.toList.length = s.size := Array.length_toList
  have h1 : (⟨#[39]⟩ : ByteArray).size = 1 := rfl
  omega
theorem text_word (s : ByteArray) : textP (wordP s) = some s := by
  unfold wordP
  by_cases h0 : s = ⟨#[]⟩
  · rw [if_pos h0, textP, if_pos rfl, h0]
  · rw [if_neg h0]
    by_cases hp : prB s = true
    · have hd : (⟨#[39]⟩ ++ s).data.toList = 39 :: s.data.toList := by rw [ba_app]; rfl
      have hne : (⟨#[39]⟩ ++ s) ≠ (⟨#[45]⟩ : ByteArray) := fun e => by
        have := congrArg (fun b : ByteArray => b.data.toList.head?) e
        simp only [hd] at this
        have h2 : some (39 : UInt8) = some 45 := this
        exact absurd h2 (by decide)
      rw [if_pos hp, textP, if_neg hne, hd, List.head?_cons, if_pos rfl, tail_app, if_pos ⟨h0, hp⟩]
    · have ha := hexL_all s.data.toList
      have hne : hexB s ≠ (⟨#[45]⟩ : ByteArray) := fun e => by
        have e2 : hexL s.data.toList = [45] := by have := congrArg (fun b : ByteArray => b.data.toList) e; simpa [hexB] using this
        have := ha 45 (by rw [e2]; simp)
        have h45 : (45 : UInt8).toNat = 45 := rfl
        omega
      have hh : ¬ (hexB s).data.toList.head? = some 39 := fun e => by
        have := head_all ha (c := 39) (by simpa [hexB] using e)
        have h39 : (39 : UInt8).toNat = 39 := rfl
        omega
      rw [if_neg hp, textP, if_neg hne, if_neg hh, unhex_hex, if_pos ⟨rfl, h0⟩]
theorem keeps_tell : ∀ (l : List Int) (o : StP), (∀ x ∈ l, -9223372036854775808 ≤ x ∧ x ≤ 9223372036854775807) → keepsP (l.map itoaB) o = some { o with keep := o.keep ++ l }
  | [], o, _ => by simp [keepsP]
  | x :: l, o, h => by
    have h1 : putP 75 (itoaB x) o = some { o with keep := o.keep ++ [x] } := by
      unfold putP
      rw [if_neg (by decide), num_itoa x (h x (by simp))]
      rfl
    rw [List.map_cons, keepsP, h1]
    simp only []
    rw [keeps_tell l _ (fun y hy => h y (by simp [hy]))]
    simp
/-- letters alone, K at the end. -/
def okPl : List UInt8 → Bool
  | [] => true
  | c :: r => if c = 75 then r.isEmpty else decide (c = 65 ∨ c = 66 ∨ c = 78 ∨ c = 84) && okPl r
theorem fill_tell (x : StP) (hx : x.inR) : ∀ (pl : List UInt8) (o : StP), okPl pl = true → o.keep = [] → fillP pl (tellP pl x) o = some (pl.foldl (fun o c => bareC c x o) o)
  | [], o, _, _ => rfl
  | c :: r, o, h, hk => by
    unfold okPl at h
    by_cases h75 : c = 75
    · rw [if_pos h75] at h
      obtain rfl : r = [] := by cases r with | nil => rfl | cons d r => simp at h
      subst h75
      show fillP [75] (x.keep.map itoaB ++ []) o = _
      rw [List.append_nil, fillP_cons, if_pos rfl, keeps_tell _ _ hx.2.2.2]
      simp only []
      rw [hk]
      rfl
    · rw [if_neg h75] at h
      simp only [Bool.and_eq_true, decide_eq_true_eq] at h
      have hput : ∃ w, tellC c x = [w] ∧ putP c w o = some (bareC c x o) ∧ (bareC c x o).keep = [] := by
        rcases h.1 with rfl | rfl | rfl | rfl
        · exact ⟨itoaB x.a, rfl, by unfold putP; rw [if_neg (by decide), num_itoa _ hx.1]; rfl, hk⟩
        · exact ⟨itoaB x.b, rfl, by unfold putP; rw [if_neg (by decide), num_itoa _ hx.2.1]; rfl, hk⟩
        · exact ⟨itoaB x.n, rfl, by unfold putP; rw [if_neg (by decide), num_itoa _ hx.2.2.1]; rfl, hk⟩
        · exact ⟨wordP x.text, rfl, by unfold putP; rw [if_pos rfl, text_word]; rfl, hk⟩
      obtain ⟨w, hw, hp, hk'⟩ := hput
      have e : tellP (c :: r) x = w :: tellP r x := by
        unfold tellP
        rw [List.flatMap_cons, hw]
        rfl
      rw [e, fillP_cons, if_neg h75]
      simp only [hp]
      rw [fill_tell x hx r _ h.2 hk']
      rfl
theorem formK_some {k : Int} {f : ByteArray × List UInt8} (h : formK k = some f) : formW f.1 = some (k.toNat, f.2) ∧ (k.toNat : Int) = k ∧ okPl f.2 = true ∧ f.1.data.toList.all (fun c => decide (97 ≤ c.toNat)) = true ∧ f.1 ≠ ⟨#[]⟩ := by
  unfold formK at h
  obtain ⟨g, hg, rfl⟩ := Option.map_eq_some_iff.1 h
  have hm := List.mem_of_find?_eq_some hg
  have hk := List.find?_some hg
  have hk := of_decide_eq_true hk
  have : ∀ g ∈ formsL, formW g.1 = some (g.2.1, g.2.2) ∧ okPl g.2.2 = true ∧ g.1.data.toList.all (fun c => decide (97 ≤ c.toNat)) = true ∧ g.1 ≠ ⟨#[]⟩ := by decide +kernel
  obtain ⟨h1, h2, h3, h4⟩ := this g hm
  subst hk
  exact ⟨by simpa using h1, by simp, h2, h3, h4⟩
theorem step_tell (x : StP) (hx : x.inR) {f : ByteArray × List UInt8} (h : formK x.kind = some f) : stepP (f.1 :: tellP f.2 x) = some (bareP x) := by
  obtain ⟨h1, h2, h3, h4, h5⟩ := formK_some h
  rw [stepP, h1]
  simp only []
  rw [h2, fill_tell x hx f.2 _ h3 rfl]
  unfold bareP
  rw [h]
end Go.Proofs.YtffolbdimkhmmaaDoor
