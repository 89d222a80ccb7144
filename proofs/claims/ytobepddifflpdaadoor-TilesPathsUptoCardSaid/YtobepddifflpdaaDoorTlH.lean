import Derived.Test.YtobepddifflpdaaDoorTlG
import Derived.Test.YtobepddifflpdaaDoorSl
set_option linter.unusedVariables false
namespace Go.Proofs.YtobepddifflpdaaDoor
open Go Go.RowKit Go.Lib Go.Sort

def leafK (i : Nat) : ByteArray := leafB ⟨#[UInt8.ofNat i, UInt8.ofNat (i / 256)]⟩
theorem leafK_size (i : Nat) : (leafK i).size = 32 := shaB_size _

theorem two_bytes (w : World) (k : Nat) (hk : k ≤ 1000) : OwnB (w.alloc (.cells #[.int .u8 ((k : Int) % 256), .int .u8 ((k : Int) / 256)] 5)) w.heap.size (.slice (some ⟨w.heap.size, 0, none⟩) 2 2) ⟨#[UInt8.ofNat k, UInt8.ofNat (k / 256)]⟩ := by
  have h1 : ((UInt8.ofNat k).toNat : Int) = (k : Int) % 256 := by
    rw [UInt8.toNat_ofNat']; omega
  have h2 : ((UInt8.ofNat (k / 256)).toNat : Int) = (k : Int) / 256 := by
    rw [UInt8.toNat_ofNat']; omega
  have hs : strCells ⟨#[UInt8.ofNat k, UInt8.ofNat (k / 256)]⟩ = [.int .u8 ((k : Int) % 256), .int .u8 ((k : Int) / 256)] := by
    show [Value.int .u8 ((UInt8.ofNat k).toNat : Int), Value.int .u8 ((UInt8.ofNat (k / 256)).toNat : Int)] = _
    rw [h1, h2]
  refine ⟨by rw [hs]; rfl, .inr ⟨w.heap.size, 2, _, rfl, Nat.le_refl _, blk_new _ _, Nat.le_refl _, by unfold maxLen; omega, rfl, ?_⟩⟩
  rw [hs]
  rfl

def LvsRel (n B : Nat) (w : World) (l i : Value) (wr : World) : Prop :=
  ∃ k : Nat, k ≤ n ∧ i = .int .i64 k ∧ OwnS wr B l ((List.range k).map leafK) ∧ Below B w wr

set_option maxRecDepth 100000 in
set_option maxHeartbeats 1000000 in
theorem leaves_any (n : Nat) (w : World) (hn : n ≤ 1000) :
    Calls Tryd.prog 12 #[.int .i64 n] w fun e w' => ∃ v, e = .returned v ∧ OwnS w' w.heap.size v ((List.range n).map leafK) ∧ Below w.heap.size w w' := by
  obtain ⟨i0, hi, hz0, hz1, hz2⟩ := info_parts infoStr
  have HI2 := Lib.hid hz2
  clear hz2
  go_enter Tryd.func12, Tryd.ntmps12
  go_wp2_with fail
  go_loopw [3, 6] (fun l i wr => LvsRel n w.heap.size w l i wr) (fun _ i _ => n - (RowKit.intOf i).toNat)
  case atStart => exact ⟨0, Nat.zero_le _, rfl, ownL_nil _ _, Below.refl _ _⟩
  case round =>
    obtain ⟨k, hk, rfl, hown, hbel⟩ := hrel
    have HO := Lib.hid hown
    have HB := Lib.hid hbel
    clear hown hbel
    by_cases hlt : k < n
    · go_wp2_with fail
      rw [run_str (two_bytes wr k (by omega))]
      simp only [Result.andThen]
      rw [Oper.upon_value]
      go_wp2_with fail
      refine (refleaf_any ⟨#[UInt8.ofNat k, UInt8.ofNat (k / 256)]⟩ _ (by show 2 ≤ 10000000000; omega)).mono ?_
      rintro e w2 ⟨rfl, hb⟩
      have hb2 : Below wr.heap.size wr w2 := (Below.refl _ _).alloc (Nat.le_refl _) _ |>.trans (hb.mono (by rw [size_alloc]; omega))
      have ho2 := OwnL.below HO.out hb2
      have hB2 := HB.out.trans (hb2.mono HB.out.size)
      have HO2 := Lib.hid ho2
      have HB2 := Lib.hid hB2
      clear hb hb2 ho2 hB2
      go_wp2_with (first | (at_builtin; refine wpList_appL _ rfl _ _ 29 rfl i0 (.string ⟨#[]⟩) 16 Tryd.underlying29 hi hz0 hz1 HI2.out rfl (by decide) w.heap.size _ ((List.range k).map leafK) rfl (HO2.out.alloc _) (leafK k) rfl ⟨w2.heap.size, 0, none⟩ 1 rfl (one_str w2 _ _) ?_ ?_ (by decide) ?_ ?_) | fail)
      · intro u hu; simp at hu; subst hu; rfl
      · simp; omega
      · rw [size_alloc]; have := HB2.out.size; omega
      intro v3 w3 ho3 hg3 _
      have hB3 : Below w.heap.size w w3 := (HB2.out.alloc HB2.out.size _).grown hg3 (by rw [size_alloc]; have := HB2.out.size; omega) (fun g hg => (HO2.out.lt g hg).1)
      have HO3 := Lib.hid ho3
      have HB3 := Lib.hid hB3
      clear ho3 hg3 hB3
      go_wp2_with fail
      refine ⟨⟨k + 1, hlt, rfl, ?_, HB3.out⟩, ?_⟩
      · have := HO3.out
        rw [List.range_succ, List.map_append]
        exact this
      · show n - ((k : Int) + 1).toNat < n - (k : Int).toNat
        omega
    · obtain rfl : k = n := by omega
      go_wp2_with fail
      go_ret
      exact ⟨_, rfl, HO.out, HB.out⟩
end Go.Proofs.YtobepddifflpdaaDoor
