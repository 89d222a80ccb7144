/-
  A slice of bytes as an argument, as a list.
-/
import Derived.Test.YtffolbdimkhmmaaDoorOpC
import Derived.Test.YtffolbdimkhmmaaDoorSdA
set_option linter.unusedVariables false
namespace Go.Proofs.YtffolbdimkhmmaaDoor
open Go Go.ChangeShapes Go.WideShapes Go.ChangeAt Go.RowKit Go.Joins Go.Deep

variable {H : Type} {enc : TypeId × Value → H} {W : World}
theorem cU8 : Tryd.prog.cellsOf 5 = 1 := by kernel_rfl
set_option maxRecDepth 100000 in
theorem open_bytes {held : Bool} {fuel : Nat} {c : Value} {x : DataW H × List MemPlace} (h : DataW.trod enc Tryd.prog W 0 (fun _ => true) held fuel 41 [c] = some x) :
    ∃ (ad : Option Addr) (l : List UInt8) (cap : Nat), c = .slice ad l.length cap ∧ BytM W ad l ∧ l.length ≤ Rows.uptoBulk x.1 := by
  rcases open_slice Tryd.underlying41 h with ⟨h1, h2⟩ | ⟨a, len, cap, m, n, D, Pl, hcs, hb, hl, hm, hmm, hx, hi⟩
  · simp at h1
    subst h1
    exact ⟨none, [], 0, rfl, fun k c hk => by simp at hk, Nat.zero_le _⟩
  · simp at hcs
    subst hcs
    have hcell : ∀ k, k < len → ∃ z : UInt8, W.cell? (a.add k) = some (.int .u8 z.toNat) := by
      intro k hk
      obtain ⟨cs', hc, ht⟩ := hi k (by rw [hmm]; split <;> omega)
      rw [cU8] at hc
      obtain ⟨_, hcl, hat⟩ := World.cells?_some hc
      obtain ⟨v, rfl⟩ : ∃ v, cs' = [v] := by
        match cs', hcl with
        | [v], _ => exact ⟨v, rfl⟩
      have h1 := hat 0 Nat.one_pos
      obtain ⟨z, e0, -, w0⟩ := DataW.trod_int Tryd.underlying5 ht
      simp at e0
      subst e0
      have hbd := bounds_u8 w0
      have hadd : (a.add (k * 1)).add 0 = a.add k := by rw [Nat.mul_one]; unfold Addr.add; split <;> simp_all
      rw [hadd] at h1
      refine ⟨UInt8.ofNat z.toNat, ?_⟩
      rw [h1]
      have e1 : (UInt8.ofNat z.toNat).toNat = z.toNat := by
        rw [UInt8.toNat_ofNat']
        omega
      rw [e1, Int.toNat_of_nonneg hbd.1]
      rfl
    obtain ⟨L, hL, hLi⟩ := gather len hcell
    subst hL
    refine ⟨some a, L, cap, rfl, fun k c hk => ?_, ?_⟩
    · have h2 := hLi k c hk
      have h0 : 0 < L.length := by have := (List.getElem?_eq_some_iff.1 hk).1; omega
      have h3 := hLi 0 (L[0]'h0) (List.getElem?_eq_getElem h0)
      have ha0 : a.add 0 = a := by unfold Addr.add; split <;> simp_all
      rw [ha0] at h3
      have hsp := spot_none h3
      refine ⟨a.block, a.off, congrArg some hsp, ?_⟩
      rw [hsp, add_lit] at h2
      exact h2
    · rw [hx]
      have := bulkAll_ge D bulk_pos (List.range L.length)
      rw [List.length_range] at this
      unfold Rows.uptoBulk
      omega
end Go.Proofs.YtffolbdimkhmmaaDoor
