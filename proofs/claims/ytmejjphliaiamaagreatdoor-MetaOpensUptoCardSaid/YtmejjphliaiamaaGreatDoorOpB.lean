/-
  A slice of bytes as an argument.
-/
import Derived.Test.YtmejjphliaiamaaGreatDoorOpD
import Derived.Test.YtmejjphliaiamaaGreatDoorMoF
set_option linter.unusedVariables false
namespace Go.Proofs.YtmejjphliaiamaaGreatDoor
open Go Go.ChangeShapes Go.WideShapes Go.ChangeAt Go.RowKit Go.Joins Go.Deep

variable {H : Type} {enc : TypeId × Value → H} {W : World}
theorem cU8 : Tryz.prog.cellsOf 5 = 1 := by kernel_rfl
set_option maxRecDepth 100000 in
theorem open_bytes {held : Bool} {fuel : Nat} {c : Value} {x : DataW H × List MemPlace} (h : DataW.trod enc Tryz.prog W 0 (fun _ => true) held fuel 47 [c] = some x) :
    ∃ (ad : Option Addr) (n cap : Nat), c = .slice ad n cap ∧ BytM W ad n ∧ n ≤ cap ∧ cap ≤ 9223372036854775807 := by
  rcases open_slice Tryz.underlying47 h with ⟨h1, h2⟩ | ⟨a, len, cap, m, n, D, Pl, hcs, hb, hl, hm, hmm, hx, hi⟩
  · simp at h1
    subst h1
    exact ⟨none, 0, 0, rfl, fun k hk => by omega, Nat.le_refl _, by decide⟩
  · simp at hcs
    subst hcs
    have hcell : ∀ k, k < len → ∃ z : Int, 0 ≤ z ∧ z ≤ 255 ∧ W.cell? (a.add k) = some (.int .u8 z) := by
      intro k hk
      obtain ⟨cs', hc, ht⟩ := hi k (by rw [hmm]; split <;> omega)
      rw [cU8] at hc
      obtain ⟨_, hcl, hat⟩ := World.cells?_some hc
      obtain ⟨v, rfl⟩ : ∃ v, cs' = [v] := by
        match cs', hcl with
        | [v], _ => exact ⟨v, rfl⟩
      have h1 := hat 0 Nat.one_pos
      obtain ⟨z, e0, -, w0⟩ := DataW.trod_int Tryz.underlying5 ht
      simp at e0
      subst e0
      have hbd := bounds_u8 w0
      have hadd : (a.add (k * 1)).add 0 = a.add k := by rw [Nat.mul_one]; unfold Addr.add; split <;> simp_all
      rw [hadd] at h1
      exact ⟨z, hbd.1, hbd.2, h1⟩
    refine ⟨some a, len, cap, rfl, fun k hk => ?_, hl, by unfold maxLen at hm; omega⟩
    obtain ⟨z0, -, -, h0⟩ := hcell 0 (by omega)
    have ha0 : a.add 0 = a := by unfold Addr.add; split <;> simp_all
    rw [ha0] at h0
    have hsp := spot_none h0
    obtain ⟨z, hz0, hz1, h2⟩ := hcell k hk
    refine ⟨a.block, a.off, congrArg some hsp, z.toNat, by omega, ?_⟩
    rw [hsp, add_lit] at h2
    rw [h2, Int.toNat_of_nonneg hz0]
end Go.Proofs.YtmejjphliaiamaaGreatDoor
