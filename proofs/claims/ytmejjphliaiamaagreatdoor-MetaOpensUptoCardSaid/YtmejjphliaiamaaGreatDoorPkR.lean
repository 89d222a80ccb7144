import Derived.Test.YtmejjphliaiamaaGreatDoorPkA
import Derived.Lib.IndexBytes
set_option linter.unusedVariables false
namespace Go.Proofs.YtmejjphliaiamaaGreatDoor
open Go Go.RowKit Go.Lib

/-! ### what was laid is read again -/
theorem beL_numTop (x : Int) (n : Nat) (hx : 0 ≤ x) (hx2 : x < ((256 ^ n : Nat) : Int)) : ∀ k, k ≤ n → (beL (numTop x n k).data.toList : Int) = x / ((256 ^ (n - k) : Nat) : Int)
  | 0, _ => by
    have h1 : x / ((256 ^ (n - 0) : Nat) : Int) = 0 := Int.ediv_eq_zero_of_lt hx (by rw [Nat.sub_zero]; exact hx2)
    rw [h1]
    rfl
  | k + 1, hk => by
    have ih := beL_numTop x n hx hx2 k (by omega)
    have hd : (numTop x n (k + 1)).data.toList = (numTop x n k).data.toList ++ [b8 (x / ((256 ^ (n - 1 - k) : Nat) : Int))] := by
      show (numTop x n k ++ oneB (x / ((256 ^ (n - 1 - k) : Nat) : Int))).data.toList = _
      rw [ByteArray.data_append, Array.toList_append]
      rfl
    rw [hd, beL_snoc]
    have hb := b8_toNat (x / ((256 ^ (n - 1 - k) : Nat) : Int))
    have hp : (256 : Nat) ^ (n - k) = 256 ^ (n - 1 - k) * 256 := by rw [← Nat.pow_succ]; congr 1; omega
    have hpz : 0 < (256 : Nat) ^ (n - 1 - k) := Nat.pow_pos (by decide)
    have he : n - (k + 1) = n - 1 - k := by omega
    rw [hp] at ih
    rw [he]
    generalize (256 : Nat) ^ (n - 1 - k) = P at ih hb hpz ⊢
    have h2 : x / ((P * 256 : Nat) : Int) = x / (P : Int) / 256 := by rw [Int.natCast_mul]; exact (Int.ediv_ediv_of_nonneg (by omega)).symm
    rw [h2] at ih
    generalize x / (P : Int) = y at ih hb ⊢
    omega
theorem beV_numB (x : Int) (n : Nat) (h : badN x n = false) (h8 : n ≤ 8) (hx : x ≤ 9223372036854775807) : beV (numB x n) = x := by
  unfold badN at h
  rw [Bool.or_eq_false_iff, decide_eq_false_iff_not, Bool.and_eq_false_iff, decide_eq_false_iff_not, decide_eq_false_iff_not] at h
  have hlt : x < ((256 ^ n : Nat) : Int) := by
    rcases h.2 with h2 | h2
    · obtain rfl : n = 8 := by omega
      have : ((256 ^ 8 : Nat) : Int) = 18446744073709551616 := by decide
      omega
    · omega
  have := beL_numTop x n (by omega) hlt n (Nat.le_refl _)
  unfold beV numB
  rw [this, Nat.sub_self, Nat.pow_zero]
  omega
theorem numB_size (x : Int) (n : Nat) : (numB x n).size = n := numTop_size x n n

theorem ext_left (a b : ByteArray) : (a ++ b).extract 0 a.size = a := by
  rw [ByteArray.extract_append]
  simp
theorem ext_right (a b : ByteArray) : (a ++ b).extract a.size (a ++ b).size = b := by
  apply WideShapes.bytes_inj
  rw [Lib.extract_to_end, ByteArray.data_append, Array.toList_append]
  have h : a.size = a.data.toList.length := Array.length_toList.symm
  rw [h, List.drop_left]
theorem rRaw_app (a b : ByteArray) : rRaw (a ++ b, 0) a.size = (a, (b, 0)) := by
  unfold rRaw
  rw [if_neg (show ¬ ((0 : Int) ≠ 0) by decide), if_neg (by omega), if_neg (by show ¬ (((a ++ b).size : Int) < _); rw [ByteArray.size_append]; omega)]
  show ((a ++ b).extract 0 (a.size : Int).toNat, ((a ++ b).extract (a.size : Int).toNat (a ++ b).size, (0 : Int))) = _
  rw [Int.toNat_natCast, ext_left, ext_right]
theorem rNum_app (x : Int) (n : Nat) (b : ByteArray) (h : badN x n = false) (h8 : n ≤ 8) (hx : x ≤ 9223372036854775807) : rNum (numB x n ++ b, 0) n = (x, (b, 0)) := by
  have := rRaw_app (numB x n) b
  rw [numB_size] at this
  unfold rNum
  rw [this]
  show (beV (numB x n), (b, (0 : Int))) = _
  rw [beV_numB x n h h8 hx]
theorem rTxt_app (p b : ByteArray) (most : Int) (h : (p.size : Int) ≤ most) (h2 : p.size ≤ 65535) : rTxt (numB p.size 2 ++ (p ++ b), 0) most = (p, (b, 0)) := by
  have hb : badN p.size 2 = false := by
    unfold badN
    have h3 : ((256 ^ 2 : Nat) : Int) = 65536 := by decide
    rw [h3]
    simp
    omega
  have hn := rNum_app p.size 2 (p ++ b) hb (by decide) (by omega)
  have h2' : rTxt2 (numB p.size 2 ++ (p ++ b), 0) most = (p ++ b, 0) := by
    unfold rTxt2
    rw [show rNum (numB p.size 2 ++ (p ++ b), 0) 2 = _ from hn, if_neg (by show ¬ (max most 0 < (p.size : Int)); omega)]
  unfold rTxt
  rw [if_neg (show ¬ ((0 : Int) ≠ 0) by decide), h2', show rNum (numB p.size 2 ++ (p ++ b), 0) 2 = _ from hn, rRaw_app p b, if_neg (show ¬ ((0 : Int) ≠ 0) by decide)]
theorem rEnd_nil : rEnd (⟨#[]⟩, 0) = (⟨#[]⟩, 0) := by unfold rEnd; rw [if_neg (by decide)]

/-- nothing was spoilt: what was laid. -/
theorem wNum_good {q : WS} {x : Int} {n : Nat} (h : (wNum q x n).2 = false) : q.2 = false ∧ badN x n = false ∧ (wNum q x n).1 = q.1 ++ numB x n := by
  unfold wNum at h ⊢
  by_cases hb : badN x n = true
  · rw [if_pos hb] at h; cases h
  · rw [if_neg hb] at h ⊢
    exact ⟨h, by simpa using hb, rfl⟩
theorem rText_good {q : WS} {s : ByteArray} (h : (rText q s).2 = false) : q.2 = false ∧ s.size ≤ 65535 ∧ (rText q s).1 = q.1 ++ numB s.size 2 ++ s := by
  unfold rText at h ⊢
  by_cases hb : 65535 < s.size
  · rw [if_pos hb] at h; cases h
  · rw [if_neg hb] at h ⊢
    obtain ⟨h1, h2, h3⟩ := wNum_good (q := q) (x := s.size) (n := 2) h
    refine ⟨h1, by omega, ?_⟩
    show (wNum q s.size 2).1 ++ s = _
    rw [h3]
theorem wOut_ok {q : WS} (h : (wOut q).2 = 0) : q.2 = false ∧ (wOut q).1 = q.1 := by
  unfold wOut at h ⊢
  by_cases hb : q.2 = true
  · rw [if_pos hb] at h; cases h
  · rw [if_neg hb]; exact ⟨by simpa using hb, rfl⟩
theorem wOut_bad {q : WS} (h : (wOut q).2 ≠ 0) : (wOut q).1 = ⟨#[]⟩ ∧ (wOut q).2 = 1 := by
  unfold wOut at h ⊢
  by_cases hb : q.2 = true
  · rw [if_pos hb]; exact ⟨rfl, rfl⟩
  · rw [if_neg hb] at h; exact absurd rfl h
end Go.Proofs.YtmejjphliaiamaaGreatDoor
