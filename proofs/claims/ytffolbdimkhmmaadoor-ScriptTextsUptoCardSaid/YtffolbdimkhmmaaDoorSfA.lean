import Derived.Test.YtffolbdimkhmmaaDoorSeC
set_option linter.unusedVariables false
set_option linter.unusedSimpArgs false
namespace Go.Proofs.YtffolbdimkhmmaaDoor
open Go Go.RowKit Go.Lib

/-! ### the document's word of a text -/
set_option maxRecDepth 100000 in
set_option maxHeartbeats 2000000 in
theorem rword_any (s : ByteArray) (w : World) (hs : s.size ≤ 35184372088000) :
    Calls Tryd.prog 51 #[.string s] w fun e w' => e = .returned (.string (wordP s)) ∧ Below w.heap.size w w' := by
  have HX := Lib.hid (rhex_any s)
  have hemp := toList_empty s
  by_cases hz : s.size = 0
  · have hr : wordP s = ⟨#[45]⟩ := by unfold wordP; rw [if_pos (Classical.byContradiction fun h => (size_ne s).2 h hz)]
    rw [decide_eq_true hz] at hemp
    have HR := Lib.hid hr
    clear hr hz
    go_enter Tryd.func51, Tryd.ntmps51
    go_wp2_with fail
    go_ret
    exact ⟨by rw [HR.out]; rfl, Below.refl _ _⟩
  · rw [decide_eq_false hz] at hemp
    have hne := (size_ne s).1 hz
    have hroom : ¬ 9223372036854775807 < (⟨#[39]⟩ : ByteArray).size + s.size := by rw [show (⟨#[39]⟩ : ByteArray).size = 1 from rfl]; omega
    have hroom2 : ¬ 9223372036854775807 < 1 + s.size := by omega
    have HNe := Lib.hid hne
    clear hne
    go_enter Tryd.func51, Tryd.ntmps51
    go_wp2_with fail
    go_loop [3] (fun i => PrRel s i) (fun i => s.size - (intOf i).toNat)
    case atStart => exact ⟨0, Nat.zero_le _, rfl, rfl⟩
    case round =>
      obtain ⟨k, hk, rfl, hp⟩ := hrel
      have HP := Lib.hid hp
      clear hp
      by_cases hlt : k < s.size
      · have hix := fun W => idx_str s k hlt W
        have ht := prB_take (s := s) k hlt HP.out
        have hbd := prB_bad (s := s) k hlt
        generalize s.data.toList.getD k 0 = d at hix ht hbd
        have HT := Lib.hid ht
        have HB := Lib.hid hbd
        clear ht hbd
        have hk1 : (k : Int) < (s.size : Int) := by omega
        by_cases h1 : d.toNat ≤ 32
        · have h1i : (d.toNat : Int) < 33 := by omega
          have hF := HB.out (by rw [decide_eq_false (by omega)]; rfl)
          have HF := Lib.hid hF
          clear hF h1
          go_wp2_with fail
          refine (HX.out w hs).mono ?_
          rintro e w1 ⟨rfl, hb⟩
          have HBx := Lib.hid hb
          clear hb
          go_wp2_with fail
          go_ret
          exact ⟨by unfold wordP; rw [if_neg HNe.out, if_neg (by rw [HF.out]; decide)]; rfl, HBx.out⟩
        · have h1i : ¬ (d.toNat : Int) < 33 := by omega
          by_cases h2 : 126 < d.toNat
          · have h2i : (126 : Int) < (d.toNat : Int) := by omega
            have hF := HB.out (by rw [decide_eq_false (show ¬ d.toNat ≤ 126 by omega), Bool.and_false])
            have HF := Lib.hid hF
            clear hF h1 h2
            go_wp2_with fail
            refine (HX.out w hs).mono ?_
            rintro e w1 ⟨rfl, hb⟩
            have HBx := Lib.hid hb
            clear hb
            go_wp2_with fail
            go_ret
            exact ⟨by unfold wordP; rw [if_neg HNe.out, if_neg (by rw [HF.out]; decide)]; rfl, HBx.out⟩
          · have h2i : ¬ (126 : Int) < (d.toNat : Int) := by omega
            have hT := HT.out
            rw [decide_eq_true (show 33 ≤ d.toNat by omega), decide_eq_true (show d.toNat ≤ 126 by omega)] at hT
            have HT2 := Lib.hid hT
            clear hT h1 h2
            go_wp2_with fail
            go_round
            case rel => exact ⟨k + 1, hlt, by go_num, HT2.out⟩
            case measure => simp [intOf]; omega
      · obtain rfl : k = s.size := by omega
        have hF : prB s = true := by
          have := HP.out
          rwa [List.take_of_length_le (by rw [← size_data]; omega)] at this
        have HF := Lib.hid hF
        clear hF
        go_wp2_with fail
        go_ret
        exact ⟨by unfold wordP; rw [if_neg HNe.out, if_pos HF.out]; rfl, Below.refl _ _⟩
end Go.Proofs.YtffolbdimkhmmaaDoor
