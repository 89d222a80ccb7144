import Derived.Test.YtmejjphliaiamaaGreatDoorNoD
set_option linter.unusedVariables false
set_option linter.unusedSimpArgs false
namespace Go.Proofs.YtmejjphliaiamaaGreatDoor
open Go Go.RowKit Go.Lib

/-! ### the document's number of a text -/
def sizeGo : Nat → List UInt8 → Option Nat
  | n, [] => some n
  | n, c :: r => if c.toNat < 48 ∨ 57 < c.toNat ∨ 1024 < n then none else sizeGo (10 * n + (c.toNat - 48)) r
def sizeR (s : ByteArray) : Int := match sizeGo 0 s.data.toList with
  | none => -1
  | some n => if itoaB n = s then (n : Int) else -1
theorem sizeR_none {s : ByteArray} (h : sizeGo 0 s.data.toList = none) : sizeR s = -1 := by unfold sizeR; rw [h]
theorem sizeR_some {s : ByteArray} {n : Nat} (h : sizeGo 0 s.data.toList = some n) : sizeR s = if itoaB n = s then (n : Int) else -1 := by unfold sizeR; rw [h]
theorem sizeGo_cons (n : Nat) (c : UInt8) (r : List UInt8) : sizeGo n (c :: r) = if c.toNat < 48 ∨ 57 < c.toNat ∨ 1024 < n then none else sizeGo (10 * n + (c.toNat - 48)) r := by rw [sizeGo]
theorem sizeR_itoa (n : Int) (h0 : 0 ≤ n) (h1 : n ≤ 1024) : sizeR (itoaB n) = n := by
  have : ∀ k : Fin 1025, sizeR (itoaB ((k.1 : Nat) : Int)) = ((k.1 : Nat) : Int) := by decide +kernel
  obtain ⟨k, rfl⟩ := Int.eq_ofNat_of_zero_le h0
  exact this ⟨k, by omega⟩
def SzRel (s : ByteArray) (w : World) (v i : Value) (wr : World) : Prop :=
  ∃ k n : Nat, k ≤ s.size ∧ i = .int .i64 k ∧ v = .int .i64 n ∧ n ≤ 20000 ∧ sizeGo 0 s.data.toList = sizeGo n (s.data.toList.drop k) ∧ w = wr

set_option maxRecDepth 100000 in
set_option maxHeartbeats 1000000 in
theorem size_any (s : ByteArray) (w : World) (hs : s.size ≤ 9223372036854775807) (hV : VarsV w) :
    Calls Tryz.prog 146 #[.string s] w fun e w' => e = .returned (.int .i64 (sizeR s)) ∧ Below w.heap.size w w' := by
  have HV := Lib.hid hV
  clear hV
  go_enter Tryz.func146, Tryz.ntmps146
  go_wp2_with fail
  go_loopw [3, 4] (fun v i wr => SzRel s w v i wr) (fun _ i _ => s.size - (intOf i).toNat)
  case atStart => exact ⟨0, 0, Nat.zero_le _, rfl, rfl, by omega, rfl, rfl⟩
  case round =>
    obtain ⟨k, n, hk, rfl, rfl, hn, hg, rfl⟩ := hrel
    have HG := Lib.hid hg
    clear hg
    by_cases hlt : k < s.size
    · have hix := fun W => idx_str s k hlt W
      have hdr := drop_getD s k hlt
      have hc8 := (s.data.toList.getD k 0).toNat_lt
      have hgo := HG.out
      rw [hdr, sizeGo_cons] at hgo
      generalize s.data.toList.getD k 0 = c at hix hc8 hgo
      have HD := Lib.hid hgo
      clear hdr hgo
      have hk0 : (0 : Int) ≤ (k : Int) := Int.natCast_nonneg _
      have hk1 : (k : Int) < (s.size : Int) := by omega
      by_cases h1 : (c.toNat : Int) < 48
      · have HR := Lib.hid (sizeR_none (HD.out.trans (if_pos (.inl (by omega)))))
        go_wp2_with fail
        go_ret
        rw [HR.out]
        exact ⟨rfl, Below.refl _ _⟩
      · by_cases h2 : (57 : Int) < (c.toNat : Int)
        · have HR := Lib.hid (sizeR_none (HD.out.trans (if_pos (.inr (.inl (by omega))))))
          go_wp2_with fail
          go_ret
          rw [HR.out]
          exact ⟨rfl, Below.refl _ _⟩
        · by_cases h3 : (1024 : Int) < (n : Int)
          · have HR := Lib.hid (sizeR_none (HD.out.trans (if_pos (.inr (.inr (by omega))))))
            go_wp2_with fail
            go_ret
            rw [HR.out]
            exact ⟨rfl, Below.refl _ _⟩
          · have HR := Lib.hid (HD.out.trans (if_neg (show ¬ (c.toNat < 48 ∨ 57 < c.toNat ∨ 1024 < n) by omega)))
            have hw1 : IntKind.u8.wrap ((c.toNat : Int) - 48) = (c.toNat : Int) - 48 := IntWalk.u8_in _ (by omega)
            have hw2 : IntKind.i64.wrap ((c.toNat : Int) - 48) = (c.toNat : Int) - 48 := IntWalk.i64_in _ (by omega)
            have hw3 : IntKind.i64.wrap (10 * (n : Int)) = 10 * (n : Int) := IntWalk.i64_in _ (by omega)
            have hw4 : IntKind.i64.wrap (10 * (n : Int) + ((c.toNat : Int) - 48)) = 10 * (n : Int) + ((c.toNat : Int) - 48) := IntWalk.i64_in _ (by omega)
            go_wp2_with fail
            refine ⟨⟨k + 1, 10 * n + (c.toNat - 48), hlt, rfl, by congr 1; omega, by omega, HR.out, rfl⟩, ?_⟩
            show s.size - ((k : Int) + 1).toNat < s.size - (k : Int).toNat
            omega
    · obtain rfl : k = s.size := by omega
      have hend : sizeGo 0 s.data.toList = some n := by
        rw [HG.out, show s.size = s.data.toList.length from Array.length_toList.symm, List.drop_length]
        rfl
      have HR := Lib.hid (sizeR_some hend)
      clear hend
      have HI := Lib.hid (fun W hW => itoa_any (n : Int) W (by omega) (by omega) hW)
      go_wp2_with fail
      refine (HI.out _ HV.out).mono ?_
      rintro e w1 ⟨rfl, hb⟩
      have HB := Lib.hid hb
      clear hb
      by_cases he : itoaB n = s
      · have hb1 : ((itoaB n).toList == s.toList) = true := by rw [toList_eqbV]; exact decide_eq_true he
        have HF := Lib.hid (HR.out.trans (if_pos he))
        clear he
        go_wp2_with fail
        go_ret
        rw [HF.out]
        exact ⟨rfl, HB.out⟩
      · have hb1 : ((itoaB n).toList == s.toList) = false := by rw [toList_eqbV]; exact decide_eq_false he
        have HF := Lib.hid (HR.out.trans (if_neg he))
        clear he
        go_wp2_with fail
        go_ret
        rw [HF.out]
        exact ⟨rfl, HB.out⟩

def parseR (t : ByteArray) : Cp × Int :=
  if (cutsL t.data.toList).getLast? = some [] then
    (match pcs t with
    | [_, p1, p2, p3, _] => if ((unhexB p3).2 && takes (p1, sizeR p2, (unhexB p3).1) t) = true then ((p1, sizeR p2, (unhexB p3).1), 0) else (cp0, 3)
    | _ => (cp0, 3))
  else (cp0, 3)
end Go.Proofs.YtmejjphliaiamaaGreatDoor
