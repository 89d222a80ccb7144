import Derived.Test.YtmejjphliaiamaaGreatDoorShaS
set_option linter.unusedVariables false
namespace Go.Proofs.YtmejjphliaiamaaGreatDoor
open Go Go.RowKit Go.Lib

/-! The tagged hash: a letter, then each part behind its length's four letters. -/
def tagN (x : Int) (ps : Nat → ByteArray) : Nat → ByteArray
  | 0 => oneB x
  | n + 1 => tagN x ps n ++ numB (ps n).size 4 ++ ps n
theorem tagN_succ (x : Int) (ps : Nat → ByteArray) (n : Nat) : (tagN x ps (n + 1)).size = (tagN x ps n).size + 4 + (ps n).size := by
  rw [tagN, ByteArray.size_append, ByteArray.size_append, shanum_size]
theorem tagN_le (x : Int) (ps : Nat → ByteArray) {k n : Nat} (h : k ≤ n) : (tagN x ps k).size ≤ (tagN x ps n).size := by
  induction n with
  | zero => obtain rfl : k = 0 := by omega
            exact Nat.le_refl _
  | succ n ih =>
    rcases Nat.lt_or_ge k (n + 1) with h1 | h1
    · rw [tagN_succ]; have := ih (by omega); omega
    · obtain rfl : k = n + 1 := by omega
      exact Nat.le_refl _
def TagRel (x : Int) (ps : Nat → ByteArray) (n : Nat) (ad : Option Addr) (w : World) (v i : Value) (wr : World) : Prop :=
  ∃ j : Nat, j ≤ n ∧ i = .int .i64 j ∧ OwnB wr w.heap.size v (tagN x ps j) ∧ Strs wr ad n ps ∧ Below w.heap.size w wr

theorem strCells_num4 (x : Int) : strCells (numB x 4) = [.int .u8 (x / 16777216 % 256), .int .u8 (x / 65536 % 256), .int .u8 (x / 256 % 256), .int .u8 (x % 256)] := by
  simp [numB, numTop, strCells_append, strCells_one]
  rfl
theorem own_one (x : Int) (hx : 0 ≤ x ∧ x < 256) (w : World) : OwnB (w.alloc (.cells #[.int .u8 x] 5)) w.heap.size (.slice (some ⟨w.heap.size, 0, none⟩) 1 1) (oneB x) := by
  refine ⟨by rw [strCells_one, oneB_size, Nat.one_mul]; rfl, .inr ⟨w.heap.size, 1, #[.int .u8 x], ?_, Nat.le_refl _, heap_alloc_last _ _, ?_⟩⟩
  · rw [oneB_size]
  · rw [strCells_one, oneB_size, show x % 256 = x by omega]
    exact ⟨by decide, by decide, rfl, rfl⟩

set_option maxRecDepth 100000 in
set_option maxHeartbeats 1000000 in
theorem reftag_any (x : Int) (hx : 0 ≤ x ∧ x < 256) (ad : Option Addr) (n c : Nat) (ps : Nat → ByteArray) (w : World) (hs : Strs w ad n ps) (hn : n ≤ 1000) (hz : (tagN x ps n).size ≤ 70368744160000) :
    Calls Tryz.prog 64 #[.int .u8 x, .slice ad n c] w fun e w' => e = .returned (.string (shaB (tagN x ps n))) ∧ Below w.heap.size w w' := by
  have Hs := Lib.hid hs
  clear hs
  go_enter Tryz.func64, Tryz.ntmps64
  go_wp2_with fail
  go_loopw [5, 6] (fun v i wr => TagRel x ps n ad w v i wr) (fun _ i _ => n - (intOf i).toNat)
  case atStart => exact ⟨0, Nat.zero_le _, rfl, own_one x hx w, Strs.below Hs.out ((Below.refl _ _).alloc (Nat.le_refl _) _), (Below.refl _ _).alloc (Nat.le_refl _) _⟩
  case round =>
    obtain ⟨j, hj, rfl, hO, hS, hbel⟩ := hrel
    have HO1 := Lib.hid hO
    have HS1 := Lib.hid hS
    have HB1 := Lib.hid hbel
    clear hO hS hbel
    by_cases hlt : j < n
    · obtain ⟨pb, po, rfl, hcell⟩ := HS1.out j hlt
      have hle := tagN_le x ps (show j + 1 ≤ n by omega)
      rw [tagN_succ] at hle
      go_wp2_with fail
      refine (number_any w.heap.size _ (tagN x ps j) ((ps j).size : Int) 4 wr HO1.out (by omega) (by omega) HB1.out.size (by omega)).mono ?_
      rintro e w2 ⟨v2, rfl, ho, hk⟩
      have HO2 := Lib.hid ho
      have HB2 := Lib.hid (HB1.out.trans (hk.toBelow HB1.out.size))
      have HS2 := Lib.hid (Hs.out.below HB2.out)
      clear ho hk hcell HO1 HB1 HS1
      obtain ⟨pb', po', hpp, hcell⟩ := HS2.out j hlt
      cases hpp
      go_wp2_with (first | (at_builtin; refine wpList_appS _ rfl rfl _ _ rfl w.heap.size _ (tagN x ps j ++ numB (ps j).size 4) rfl HO2.out (ps j) rfl ?_ ?_ ?_) | fail)
      · rw [ByteArray.size_append, shanum_size]; omega
      · exact HB2.out.size
      intro v3 w3 ho hg
      have HO3 := Lib.hid ho
      have HB3 := Lib.hid (HB2.out.grown hg HB2.out.size (fun g hg => (HO2.out.lt g hg).1))
      have HS3 := Lib.hid (Hs.out.below HB3.out)
      clear ho hg hcell
      go_wp2_with fail
      refine ⟨⟨j + 1, hlt, rfl, HO3.out, HS3.out, HB3.out⟩, ?_⟩
      show n - ((j : Int) + 1).toNat < n - (j : Int).toNat
      omega
    · obtain rfl : j = n := by omega
      go_wp2_with fail
      refine (hash_any w.heap.size _ (tagN x ps j) wr HO1.out HB1.out.size (by omega)).mono ?_
      rintro e w3 ⟨rfl, hb3⟩
      have HB3 := Lib.hid (HB1.out.trans hb3)
      clear hb3
      go_wp2_with fail
      go_ret
      exact ⟨rfl, HB3.out⟩

set_option maxRecDepth 100000 in
set_option maxHeartbeats 1000000 in
theorem tag_any (x : Int) (hx : 0 ≤ x ∧ x < 256) (ad : Option Addr) (n c : Nat) (ps : Nat → ByteArray) (w : World) (hs : Strs w ad n ps) (hn : n ≤ 1000) (hz : (tagN x ps n).size ≤ 70368744160000) :
    Calls Tryz.prog 180 #[.int .u8 x, .slice ad n c] w fun e w' => e = .returned (.string (shaB (tagN x ps n))) ∧ Below w.heap.size w w' := by
  have Hs := Lib.hid hs
  clear hs
  go_enter Tryz.func180, Tryz.ntmps180
  obtain ⟨i0, hi, hz0, hz1, hz2⟩ := info_parts infoU8
  have HI := Lib.hid hz2
  clear hz2
  go_wp2_with (first | (at_make; refine wpList_make_own _ rfl _ _ 47 rfl w.heap.size 5 i0 (.int .u8 0) 1 Tryz.underlying47 hi hz0 hz1 _ _ _ 192 rfl rfl (by omega) ?_ ?_ ?_ ?_) | fail)
  · rw [HI.out]; omega
  · unfold maxLen; omega
  · omega
  intro w1 ho hg
  have HO := Lib.hid (show OwnB w1 w.heap.size (.slice (some ⟨w.heap.size, 0, none⟩) 0 192) (⟨#[]⟩ : ByteArray) from ho)
  have HB := Lib.hid ((Below.refl w.heap.size w).grown hg (Nat.le_refl _) (fun _ h => by cases h))
  clear ho hg hi hz0 hz1 HI
  go_wp2_with (first | (at_builtin; refine wpList_appB _ rfl rfl _ _ rfl w.heap.size _ ⟨#[]⟩ rfl (HO.out.alloc _) (oneB x) ⟨w1.heap.size, 0, none⟩ 1 1 rfl rfl ?_ ?_ ?_ ?_) | fail)
  · exact cells_one (by omega)
  · rw [oneB_size]; show 0 + 1 ≤ _; omega
  · rw [size_alloc]; have := HB.out.size; omega
  intro v2 w2 ho hg
  obtain ⟨hb2, hs2⟩ := below_app HB.out HO.out HB.out.size _ hg
  rw [show (⟨#[]⟩ : ByteArray) ++ oneB x = oneB x from ByteArray.empty_append] at ho
  have HO2 := Lib.hid ho
  have HB2 := Lib.hid hb2
  clear ho hg hb2 HO HB
  go_wp2_with fail
  go_loopw [5, 15] (fun v i wr => TagRel x ps n ad w v i wr) (fun _ i _ => n - (intOf i).toNat)
  case atStart => exact ⟨0, Nat.zero_le _, rfl, HO2.out, Strs.below Hs.out HB2.out, HB2.out⟩
  case round =>
    obtain ⟨j, hj, rfl, hO, hS, hbel⟩ := hrel
    have HO1 := Lib.hid hO
    have HS1 := Lib.hid hS
    have HB1 := Lib.hid hbel
    clear hO hS hbel HO2 HB2
    by_cases hlt : j < n
    · obtain ⟨pb, po, rfl, hcell⟩ := HS1.out j hlt
      have hle := tagN_le x ps (show j + 1 ≤ n by omega)
      rw [tagN_succ] at hle
      go_wp2_with (first | (at_builtin; refine wpList_appB _ rfl rfl _ _ rfl w.heap.size _ (tagN x ps j) rfl (HO1.out.alloc _) (numB (ps j).size 4) ⟨wr.heap.size, 0, none⟩ 4 4 rfl rfl ?_ ?_ ?_ ?_) | fail)
      · refine cells_of_blk (blk_new _ _) ?_
        rw [strCells_num4, show ((ps j).size : Int) % 4294967296 / 16777216 = (ps j).size / 16777216 % 256 by omega, show ((ps j).size : Int) % 4294967296 / 65536 % 256 = (ps j).size / 65536 % 256 by omega, show ((ps j).size : Int) % 4294967296 / 256 % 256 = (ps j).size / 256 % 256 by omega]
      · rw [shanum_size]; omega
      · rw [size_alloc]; have := HB1.out.size; omega
      intro v2 w2 ho hg
      obtain ⟨hb2, hs2⟩ := below_app HB1.out HO1.out HB1.out.size _ hg
      have HO2 := Lib.hid ho
      have HB2 := Lib.hid hb2
      have HS2 := Lib.hid (Hs.out.below HB2.out)
      clear ho hg hb2 hcell HO1 HB1 HS1
      obtain ⟨pb', po', hpp, hcell⟩ := HS2.out j hlt
      cases hpp
      go_wp2_with (first | (at_builtin; refine wpList_appS _ rfl rfl _ _ rfl w.heap.size _ (tagN x ps j ++ numB (ps j).size 4) rfl HO2.out (ps j) rfl ?_ ?_ ?_) | fail)
      · rw [ByteArray.size_append, shanum_size]; omega
      · exact HB2.out.size
      intro v3 w3 ho hg
      have HO3 := Lib.hid ho
      have HB3 := Lib.hid (HB2.out.grown hg HB2.out.size (fun g hg => (HO2.out.lt g hg).1))
      have HS3 := Lib.hid (Hs.out.below HB3.out)
      clear ho hg hcell
      go_wp2_with fail
      refine ⟨⟨j + 1, hlt, rfl, HO3.out, HS3.out, HB3.out⟩, ?_⟩
      show n - ((j : Int) + 1).toNat < n - (j : Int).toNat
      omega
    · obtain rfl : j = n := by omega
      go_wp2_with fail
      refine (hashed_any w.heap.size _ (tagN x ps j) wr HO1.out HB1.out.size (by omega)).mono ?_
      rintro e w3 ⟨rfl, hb3⟩
      have HB3 := Lib.hid (HB1.out.trans hb3)
      clear hb3
      go_wp2_with fail
      go_ret
      exact ⟨rfl, HB3.out⟩
end Go.Proofs.YtmejjphliaiamaaGreatDoor
