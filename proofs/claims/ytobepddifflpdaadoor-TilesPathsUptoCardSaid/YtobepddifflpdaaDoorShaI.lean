import Derived.Test.YtobepddifflpdaaDoorShaH
set_option linter.unusedVariables false
namespace Go.Proofs.YtobepddifflpdaaDoor
open Go Go.RowKit Go.Lib

/-- the first k of some texts, one behind the other. -/
def catN (ps : Nat → ByteArray) : Nat → ByteArray
  | 0 => ⟨#[]⟩
  | k + 1 => catN ps k ++ ps k
theorem catN_le (ps : Nat → ByteArray) : ∀ {k n : Nat}, k ≤ n → (catN ps k).size ≤ (catN ps n).size := by
  intro k n h
  induction h with
  | refl => exact Nat.le_refl _
  | step _ ih => rw [catN, ByteArray.size_append]; omega

/-- a slice of texts. -/
def Strs (w : World) (ad : Option Addr) (n : Nat) (ps : Nat → ByteArray) : Prop :=
  ∀ i, i < n → ∃ pb po, ad = some ⟨pb, po, none⟩ ∧ w.cell? ⟨pb, po + i, none⟩ = some (.string (ps i))

def SumRel1 (ps : Nat → ByteArray) (n : Nat) (w : World) (t i : Value) (wr : World) : Prop :=
  ∃ k : Nat, k ≤ n ∧ i = .int .i64 k ∧ t = .int .i64 (96 + (catN ps k).size) ∧ wr = w

theorem Strs.below {w w' : World} {ad : Option Addr} {n : Nat} {ps : Nat → ByteArray} (h : Strs w ad n ps) (hb : Below w.heap.size w w') : Strs w' ad n ps := by
  intro i hi
  obtain ⟨pb, po, h1, h2⟩ := h i hi
  exact ⟨pb, po, h1, (hb.cell (p := ⟨pb, po + i, none⟩) (cell_lt h2)).trans h2⟩
def SumRel2 (ps : Nat → ByteArray) (n : Nat) (ad : Option Addr) (w : World) (v i : Value) (wr : World) : Prop :=
  ∃ k : Nat, k ≤ n ∧ i = .int .i64 k ∧ OwnB wr w.heap.size v (catN ps k) ∧ Strs wr ad n ps ∧ Below w.heap.size w wr

set_option maxRecDepth 100000 in
set_option maxHeartbeats 1000000 in
theorem sum_any (ad : Option Addr) (n c : Nat) (ps : Nat → ByteArray) (w : World) (hs : Strs w ad n ps) (hn : n ≤ 1000) (hz : (catN ps n).size ≤ 70368744160000) :
    Calls Tryd.prog 69 #[.slice ad n c] w fun e w' => e = .returned (.string (shaB (catN ps n))) ∧ Below w.heap.size w w' := by
  have Hs := Lib.hid hs
  clear hs
  go_enter Tryd.func69, Tryd.ntmps69
  go_wp2_with fail
  go_loopw [3, 11] (fun t i wr => SumRel1 ps n w t i wr) (fun _ i _ => n - (intOf i).toNat)
  case atStart => exact ⟨0, Nat.zero_le _, rfl, rfl, rfl⟩
  case round =>
    obtain ⟨k, hk, rfl, rfl, rfl⟩ := hrel
    by_cases hlt : k < n
    · obtain ⟨pb, po, rfl, hcell⟩ := Hs.out k hlt
      have hle := catN_le ps (show k + 1 ≤ n by omega)
      have hle2 := catN_le ps (show k ≤ n by omega)
      have hsz : (catN ps (k + 1)).size = (catN ps k).size + (ps k).size := by rw [catN, ByteArray.size_append]
      rw [hsz] at hle
      have Hsz := Lib.hid hsz
      clear hsz
      go_wp2_with fail
      refine ⟨⟨k + 1, hlt, rfl, ?_, rfl⟩, ?_⟩
      · rw [Hsz.out]; congr 1; omega
      · show n - ((k : Int) + 1).toNat < n - (k : Int).toNat
        omega
    · obtain rfl : k = n := by omega
      obtain ⟨i0, hi, hz0, hz1, hz2⟩ := info_parts infoU8
      have HI := Lib.hid hz2
      clear hz2
      go_wp2_with (first | (at_make; refine wpList_make_own _ rfl _ _ 65 rfl wr.heap.size 5 i0 (.int .u8 0) 1 Tryd.underlying65 hi hz0 hz1 _ _ _ (96 + (catN ps k).size) rfl rfl (by omega) ?_ ?_ ?_ ?_) | fail)
      · rw [HI.out]; omega
      · unfold maxLen; omega
      · omega
      intro w1 ho hg
      have HO := Lib.hid (show OwnB w1 wr.heap.size (.slice (some ⟨wr.heap.size, 0, none⟩) 0 (96 + (catN ps k).size)) (⟨#[]⟩ : ByteArray) from ho)
      have HB := Lib.hid ((Below.refl wr.heap.size wr).grown hg (Nat.le_refl _) (fun _ h => by cases h))
      clear ho hg hi hz0 hz1 HI
      generalize hwo : wr = wo at HO HB Hs ⊢
      have Hwo := Lib.hid hwo
      clear hwo
      go_wp2_with fail
      go_loopw [6, 24] (fun v i wr => SumRel2 ps k ad wo v i wr) (fun _ i _ => k - (intOf i).toNat)
      case atStart => exact ⟨0, Nat.zero_le _, rfl, HO.out, Hs.out.below HB.out, HB.out⟩
      case round =>
        obtain ⟨j, hj, rfl, hO, hS, hbel⟩ := hrel
        have HO1 := Lib.hid hO
        have HS1 := Lib.hid hS
        have HB1 := Lib.hid hbel
        clear hO hS hbel HO HB
        by_cases hlt : j < k
        · obtain ⟨pb, po, rfl, hcell⟩ := HS1.out j hlt
          have hle := catN_le ps (show j + 1 ≤ k by omega)
          rw [catN, ByteArray.size_append] at hle
          go_wp2_with (first | (at_builtin; refine wpList_appS _ rfl rfl _ _ rfl wo.heap.size _ (catN ps j) rfl HO1.out (ps j) rfl ?_ ?_ ?_) | fail)
          · omega
          · exact HB1.out.size
          intro v2 w2 ho hg
          have HO2 := Lib.hid ho
          have HB2 := Lib.hid (HB1.out.grown hg HB1.out.size (fun g hg => (HO1.out.lt g hg).1))
          have HS2 := Lib.hid (Hs.out.below HB2.out)
          clear ho hg hcell
          go_wp2_with fail
          refine ⟨⟨j + 1, hlt, rfl, HO2.out, HS2.out, HB2.out⟩, ?_⟩
          show k - ((j : Int) + 1).toNat < k - (j : Int).toNat
          omega
        · obtain rfl : j = k := by omega
          go_wp2_with fail
          refine (hashed_any wo.heap.size u6 (catN ps j) wr HO1.out HB1.out.size (by omega)).mono ?_
          rintro e w3 ⟨rfl, hb3⟩
          have HB3 := Lib.hid (HB1.out.trans hb3)
          clear hb3
          go_wp2_with fail
          go_ret
          rw [Hwo.out]
          exact ⟨rfl, HB3.out⟩
end Go.Proofs.YtobepddifflpdaaDoor
