import Derived.Test.YtobepddifflpdaaDoorShaI
set_option linter.unusedVariables false
namespace Go.Proofs.YtobepddifflpdaaDoor
open Go Go.RowKit Go.Lib

set_option maxRecDepth 100000 in
set_option maxHeartbeats 1000000 in
theorem refsum_any (ad : Option Addr) (n c : Nat) (ps : Nat → ByteArray) (w : World) (hs : Strs w ad n ps) (hn : n ≤ 1000) (hz : (catN ps n).size ≤ 70368744160000) :
    Calls Tryd.prog 46 #[.slice ad n c] w fun e w' => e = .returned (.string (shaB (catN ps n))) ∧ Below w.heap.size w w' := by
  have Hs := Lib.hid hs
  clear hs
  go_enter Tryd.func46, Tryd.ntmps46
  go_wp2_with fail
  go_loopw [3, 4] (fun v i wr => SumRel2 ps n ad w v i wr) (fun _ i _ => n - (intOf i).toNat)
  case atStart => exact ⟨0, Nat.zero_le _, rfl, ownB_nil _ _, Hs.out, Below.refl _ _⟩
  case round =>
    obtain ⟨j, hj, rfl, hO, hS, hbel⟩ := hrel
    have HO1 := Lib.hid hO
    have HS1 := Lib.hid hS
    have HB1 := Lib.hid hbel
    clear hO hS hbel
    by_cases hlt : j < n
    · obtain ⟨pb, po, rfl, hcell⟩ := HS1.out j hlt
      have hle := catN_le ps (show j + 1 ≤ n by omega)
      rw [catN, ByteArray.size_append] at hle
      go_wp2_with (first | (at_builtin; refine wpList_appS _ rfl rfl _ _ rfl w.heap.size _ (catN ps j) rfl HO1.out (ps j) rfl ?_ ?_ ?_) | fail)
      · omega
      · exact HB1.out.size
      intro v2 w2 ho hg
      have HO2 := Lib.hid ho
      have HB2 := Lib.hid (HB1.out.grown hg HB1.out.size (fun g hg => (HO1.out.lt g hg).1))
      have HS2 := Lib.hid (Hs.out.below HB2.out)
      clear ho hg hcell
      go_wp2_with fail
      refine ⟨⟨j + 1, hlt, rfl, HO2.out, HS2.out, HB2.out⟩, ?_⟩
      show n - ((j : Int) + 1).toNat < n - (j : Int).toNat
      omega
    · obtain rfl : j = n := by omega
      go_wp2_with fail
      refine (hash_any w.heap.size _ (catN ps j) wr HO1.out HB1.out.size (by omega)).mono ?_
      rintro e w3 ⟨rfl, hb3⟩
      have HB3 := Lib.hid (HB1.out.trans hb3)
      clear hb3
      go_wp2_with fail
      go_ret
      exact ⟨rfl, HB3.out⟩

/-! leaves and nodes -/
def leafB (s : ByteArray) : ByteArray := shaB ((⟨#[0]⟩ : ByteArray) ++ s)
def nodeB (l r : ByteArray) : ByteArray := shaB ((⟨#[1]⟩ : ByteArray) ++ l ++ r)

def psL (l : List ByteArray) : Nat → ByteArray := fun i => l.getD i ⟨#[]⟩
theorem strs_new (w : World) (t : TypeId) (l : List ByteArray) : Strs (w.alloc (.cells (l.map Value.string).toArray t)) (some ⟨w.heap.size, 0, none⟩) l.length (psL l) := by
  intro i hi
  refine ⟨w.heap.size, 0, rfl, cell_of_blk (blk_new _ _) _ ?_⟩
  rw [Nat.zero_add, List.getElem?_toArray, List.getElem?_map, List.getElem?_eq_getElem hi]
  unfold psL
  rw [List.getD_eq_getElem?_getD, List.getElem?_eq_getElem hi]
  rfl
theorem nil_app (s : ByteArray) : (⟨#[]⟩ : ByteArray) ++ s = s := ByteArray.empty_append
theorem cat2 (a b : ByteArray) : catN (psL [a, b]) 2 = a ++ b := by
  show ((⟨#[]⟩ : ByteArray) ++ a) ++ b = a ++ b
  rw [nil_app]
theorem cat3 (a b c : ByteArray) : catN (psL [a, b, c]) 3 = a ++ b ++ c := by
  show (((⟨#[]⟩ : ByteArray) ++ a) ++ b) ++ c = a ++ b ++ c
  rw [nil_app]
def SumPost (H : ByteArray) (w : World) (e : Ending) (w' : World) : Prop := e = .returned (.string H) ∧ Below w.heap.size w w'

set_option maxRecDepth 100000 in
theorem node_any (l r : ByteArray) (w : World) (hl : l.size ≤ 10000000000) (hr : r.size ≤ 10000000000) :
    Calls Tryd.prog 71 #[.string l, .string r] w fun e w' => e = .returned (.string (nodeB l r)) ∧ Below w.heap.size w w' := by
  go_enter Tryd.func71, Tryd.ntmps71
  go_wp2_with fail
  have hcall := sum_any (some ⟨w.heap.size, 0, none⟩) 3 3 (psL [⟨#[1]⟩, l, r]) _ (strs_new w 9 [⟨#[1]⟩, l, r]) (by decide) (by rw [cat3, ByteArray.size_append, ByteArray.size_append]; show 1 + l.size + r.size ≤ _; omega)
  rw [cat3] at hcall
  refine hcall.mono ?_
  rintro e w1 ⟨rfl, hb⟩
  have HB := Lib.hid ((Below.refl w.heap.size w).alloc (Nat.le_refl _) _ |>.trans (hb.mono (by rw [size_alloc]; omega)))
  clear hb hcall
  go_wp2_with fail
  go_ret
  exact ⟨rfl, HB.out⟩

set_option maxRecDepth 100000 in
theorem refnode_any (l r : ByteArray) (w : World) (hl : l.size ≤ 10000000000) (hr : r.size ≤ 10000000000) :
    Calls Tryd.prog 48 #[.string l, .string r] w fun e w' => e = .returned (.string (nodeB l r)) ∧ Below w.heap.size w w' := by
  go_enter Tryd.func48, Tryd.ntmps48
  go_wp2_with fail
  have hcall := refsum_any (some ⟨w.heap.size, 0, none⟩) 3 3 (psL [⟨#[1]⟩, l, r]) _ (strs_new w 9 [⟨#[1]⟩, l, r]) (by decide) (by rw [cat3, ByteArray.size_append, ByteArray.size_append]; show 1 + l.size + r.size ≤ _; omega)
  rw [cat3] at hcall
  refine hcall.mono ?_
  rintro e w1 ⟨rfl, hb⟩
  have HB := Lib.hid ((Below.refl w.heap.size w).alloc (Nat.le_refl _) _ |>.trans (hb.mono (by rw [size_alloc]; omega)))
  clear hb hcall
  go_wp2_with fail
  go_ret
  exact ⟨rfl, HB.out⟩

set_option maxRecDepth 100000 in
theorem refleaf_any (l : ByteArray) (w : World) (hl : l.size ≤ 10000000000) :
    Calls Tryd.prog 36 #[.string l] w fun e w' => e = .returned (.string (leafB l)) ∧ Below w.heap.size w w' := by
  go_enter Tryd.func36, Tryd.ntmps36
  go_wp2_with fail
  have hcall := refsum_any (some ⟨w.heap.size, 0, none⟩) 2 2 (psL [⟨#[0]⟩, l]) _ (strs_new w 9 [⟨#[0]⟩, l]) (by decide) (by rw [cat2, ByteArray.size_append]; show 1 + l.size ≤ _; omega)
  rw [cat2] at hcall
  refine hcall.mono ?_
  rintro e w1 ⟨rfl, hb⟩
  have HB := Lib.hid ((Below.refl w.heap.size w).alloc (Nat.le_refl _) _ |>.trans (hb.mono (by rw [size_alloc]; omega)))
  clear hb hcall
  go_wp2_with fail
  go_ret
  exact ⟨rfl, HB.out⟩

end Go.Proofs.YtobepddifflpdaaDoor
