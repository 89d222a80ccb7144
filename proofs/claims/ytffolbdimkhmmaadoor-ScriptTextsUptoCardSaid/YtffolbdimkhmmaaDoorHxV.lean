import Derived.Test.YtffolbdimkhmmaaDoorHxP
import Derived.Test.YtffolbdimkhmmaaDoorShelf
set_option linter.unusedVariables false
set_option linter.unusedSimpArgs false
namespace Go.Proofs.YtffolbdimkhmmaaDoor
open Go Go.RowKit Go.Lib

/-! ### hex read, without memory -/
def unD (c : UInt8) : Int := if 48 ≤ c.toNat ∧ c.toNat ≤ 57 then (c.toNat : Int) - 48 else if 97 ≤ c.toNat ∧ c.toNat ≤ 102 then (c.toNat : Int) - 87 else -1
theorem unD_index (c : UInt8) : Lib.indexByte digits16.data.toList c = unD c := by
  have : ∀ n : Fin 256, Lib.indexByte digits16.data.toList (UInt8.ofNat n.1) = unD (UInt8.ofNat n.1) := by decide +kernel
  have h := this ⟨c.toNat, c.toNat_lt⟩
  simpa using h
theorem unD_ix (c : UInt8) : Lib.indexByte [48, 49, 50, 51, 52, 53, 54, 55, 56, 57, 97, 98, 99, 100, 101, 102] c = unD c := unD_index c
theorem unD_range (c : UInt8) : -1 ≤ unD c ∧ unD c < 16 := by unfold unD; split <;> (try split) <;> omega
def unhexGo : ByteArray → List UInt8 → Option ByteArray
  | acc, [] => some acc
  | acc, [_] => none
  | acc, a :: b :: r => if unD a < 0 ∨ unD b < 0 then none else unhexGo (acc ++ oneB (16 * unD a + unD b)) r
def unhexB (s : ByteArray) : ByteArray × Bool := match unhexGo ⟨#[]⟩ s.data.toList with
  | some t => (t, true)
  | none => (⟨#[]⟩, false)
theorem unhexGo_odd : ∀ (l : List UInt8) (acc : ByteArray), l.length % 2 = 1 → unhexGo acc l = none
  | [], _, h => by simp at h
  | [_], _, _ => rfl
  | a :: b :: r, acc, h => by
    unfold unhexGo
    split
    · rfl
    · exact unhexGo_odd r _ (by simp at h; omega)
theorem unhexB_odd (s : ByteArray) (h : s.size % 2 = 1) : unhexB s = (⟨#[]⟩, false) := by
  unfold unhexB
  rw [unhexGo_odd _ _ (by rw [Array.length_toList]; exact h)]
theorem unhexGo_cons (acc : ByteArray) (a b : UInt8) (r : List UInt8) : unhexGo acc (a :: b :: r) = if unD a < 0 ∨ unD b < 0 then none else unhexGo (acc ++ oneB (16 * unD a + unD b)) r := by rw [unhexGo]
theorem unhexB_none {s : ByteArray} (h : unhexGo ⟨#[]⟩ s.data.toList = none) : unhexB s = (⟨#[]⟩, false) := by unfold unhexB; rw [h]
theorem unhexB_some {s t : ByteArray} (h : unhexGo ⟨#[]⟩ s.data.toList = some t) : unhexB s = (t, true) := by unfold unhexB; rw [h]
theorem or16 (H L : Int) (h0 : 0 ≤ H) (h1 : H < 16) (l0 : 0 ≤ L) (l1 : L < 16) : bits .or .i64 (H * 16) L = 16 * H + L := by
  have : ∀ a b : Fin 16, bits .or .i64 (((a.1 : Nat) : Int) * 16) ((b.1 : Nat) : Int) = 16 * ((a.1 : Nat) : Int) + ((b.1 : Nat) : Int) := by decide +kernel
  obtain ⟨a, rfl⟩ := Int.eq_ofNat_of_zero_le h0
  obtain ⟨b, rfl⟩ := Int.eq_ofNat_of_zero_le l0
  exact this ⟨a, by omega⟩ ⟨b, by omega⟩
theorem drop_two (s : ByteArray) (n : Nat) (h : n + 1 < s.size) : s.data.toList.drop n = s.data.toList.getD n 0 :: s.data.toList.getD (n + 1) 0 :: s.data.toList.drop (n + 2) := by
  have hl : n + 1 < s.data.toList.length := h
  rw [List.drop_eq_getElem_cons (by omega : n < s.data.toList.length), List.drop_eq_getElem_cons hl]
  rw [List.getD_eq_getElem?_getD, List.getD_eq_getElem?_getD, List.getElem?_eq_getElem hl, List.getElem?_eq_getElem (by omega : n < s.data.toList.length)]
  rfl

theorem below_drew' {B : Nat} {w w' : World} (h : Below B w w') : Below B w w'.drew := ⟨h.os, h.tape, h.output, h.size, h.block⟩

def UnRel (s : ByteArray) (w : World) (v i : Value) (wr : World) : Prop :=
  ∃ (n : Nat) (acc : ByteArray), n ≤ s.size ∧ i = .int .i64 n ∧ n % 2 = 0 ∧ unhexGo ⟨#[]⟩ s.data.toList = unhexGo acc (s.data.toList.drop n) ∧ acc.size ≤ n ∧ OwnB wr w.heap.size v acc ∧ Below w.heap.size w wr ∧ w.heap.size ≤ wr.heap.size

set_option maxRecDepth 100000 in
set_option maxHeartbeats 1000000 in
theorem unhex_any (s : ByteArray) (w : World) (hs : s.size ≤ 35184372088000) :
    Calls Tryd.prog 64 #[.string s] w fun e w' => e = .returned (.tuple #[.string (unhexB s).1, .bool (unhexB s).2]) ∧ Below w.heap.size w w' := by
  by_cases hodd : s.size % 2 = 1
  · rw [unhexB_odd s hodd]
    have ho : (s.size : Int).tmod 2 = 1 := by rw [Int.tmod_eq_emod_of_nonneg (by omega)]; omega
    clear hodd
    go_enter Tryd.func64, Tryd.ntmps64
    go_wp2_with fail
    go_ret2
    exact ⟨rfl, Below.refl _ _⟩
  · have ho : (s.size : Int).tmod 2 = 0 := by rw [Int.tmod_eq_emod_of_nonneg (by omega)]; omega
    have HE := Lib.hid (show s.size % 2 = 0 by omega)
    clear hodd
    go_enter Tryd.func64, Tryd.ntmps64
    go_wp2_with fail
    go_loopw [4, 5] (fun v i wr => UnRel s w v i wr) (fun _ i _ => s.size - (intOf i).toNat)
    case atStart => exact ⟨0, ⟨#[]⟩, Nat.zero_le _, rfl, rfl, rfl, Nat.le_refl _, ownB_nil _ _, Below.refl _ _, Nat.le_refl _⟩
    case round =>
      obtain ⟨n, acc, hn, rfl, hpar, hg, hac, hO, hK, hsz⟩ := hrel
      have HO := Lib.hid hO
      have HK := Lib.hid hK
      have HP := Lib.hid hpar
      have HG := Lib.hid hg
      clear hO hK hpar hg
      by_cases hlt : n < s.size
      · have hlt2 : n + 1 < s.size := by have := HE.out; have := HP.out; omega
        have i0 := fun W => idx_str s n hlt W
        have i1 : ∀ W, (Instr.index 9 (.string s) (.int .i64 ((n : Int) + 1))).run Tryd.prog W = .ok (.int .u8 (s.data.toList.getD (n + 1) 0).toNat) W := fun W => idx_str s (n + 1) hlt2 W
        have hdr := drop_two s n hlt2
        generalize s.data.toList.getD n 0 = c at i0 hdr
        generalize s.data.toList.getD (n + 1) 0 = d at i1 hdr
        have hgo := HG.out
        rw [hdr, unhexGo_cons] at hgo
        have HD := Lib.hid hgo
        clear hdr hgo
        have hw1 : IntKind.i64.wrap ((n : Int) + 1) = (n : Int) + 1 := IntWalk.i64_in _ (by omega)
        have hw2 : IntKind.i64.wrap ((n : Int) + 2) = (n : Int) + 2 := IntWalk.i64_in _ (by omega)
        have hlti : (n : Int) < (s.size : Int) := by omega
        have hlti2 : (n : Int) + 1 < (s.size : Int) := by omega
        have hni : (0 : Int) ≤ (n : Int) := Int.natCast_nonneg _
        have hc1 := unD_ix c
        have hc2 := unD_ix d
        have hr1 := unD_range c
        have hr2 := unD_range d
        generalize unD c = H at HD hc1 hr1
        generalize unD d = L at HD hc2 hr2
        by_cases h1 : H < 0
        case' pos =>
          have hres := unhexB_none (HD.out.trans (if_pos (.inl h1)))
          have HR := Lib.hid hres
          clear hres
          go_wp2_with fail
          go_region_law ((go_simp; refine (Tryd.strings_IndexByte _ _ _).mono ?_; rintro e w1 ⟨rfl, rfl⟩))
          all_goals
            go_wp2_with fail
            go_ret2
            rw [HR.out]
            exact ⟨rfl, below_drew' HK.out⟩
        by_cases h2 : L < 0
        case' pos =>
          have hres := unhexB_none (HD.out.trans (if_pos (.inr h2)))
          have HR := Lib.hid hres
          clear hres
          go_wp2_with fail
          go_region_law ((go_simp; refine (Tryd.strings_IndexByte _ _ _).mono ?_; rintro e w1 ⟨rfl, rfl⟩))
          all_goals
            go_wp2_with fail
            go_ret2
            rw [HR.out]
            exact ⟨rfl, below_drew' HK.out⟩
        have hres := HD.out.trans (if_neg (show ¬ (H < 0 ∨ L < 0) by omega))
        have HR := Lib.hid hres
        have hor := or16 H L (by omega) (by omega) (by omega) (by omega)
        have hx8 : (16 * H + L) % 256 = 16 * H + L := by omega
        have hwx : IntKind.u8.wrap (16 * H + L) = 16 * H + L := IntWalk.u8_in _ (by omega)
        have hwH : IntKind.i64.wrap (H * 16) = H * 16 := IntWalk.i64_in _ (by omega)
        clear hres
        go_wp2_with fail
        go_region_law ((go_simp; refine (Tryd.strings_IndexByte _ _ _).mono ?_; rintro e w1 ⟨rfl, rfl⟩))
        all_goals
          go_wp2_with (first | (at_builtin; refine wpList_appB _ rfl rfl _ _ rfl w.heap.size _ acc rfl (HO.out.alloc _) (oneB (16 * H + L)) ⟨wr.heap.size, 0, none⟩ 1 1 rfl rfl ?_ ?_ ?_ ?_) | fail)
          · exact cells_one hx8
          · rw [oneB_size]; omega
          · simp; omega
          intro v' w' ho hg
          have hkk : Below w.heap.size w w' ∧ w.heap.size ≤ w'.heap.size := below_app HK.out HO.out hsz _ (grown_drew hg)
          have HF := Lib.hid (And.intro ho hkk)
          clear ho hg hkk
          go_wp2_with fail
          refine ⟨⟨n + 2, _, hlt2, rfl, (by have := HP.out; omega), HR.out, (by rw [ByteArray.size_append, oneB_size]; omega), HF.out.1, HF.out.2.1, HF.out.2.2⟩, ?_⟩
          show s.size - ((n : Int) + 2).toNat < s.size - (n : Int).toNat
          omega
      · obtain rfl : n = s.size := by omega
        have hend : unhexGo ⟨#[]⟩ s.data.toList = some acc := by
          rw [HG.out, show s.size = s.data.toList.length from Array.length_toList.symm, List.drop_length]
          unfold unhexGo
          rfl
        have HX := Lib.hid (unhexB_some hend)
        have HR := Lib.hid (run_str HO.out)
        clear hend
        go_wp2_with fail
        rw [HR.out]
        simp only [Result.andThen]
        rw [Oper.upon_value]
        go_wp2_with fail
        go_ret2
        rw [HX.out]
        exact ⟨rfl, HK.out⟩

theorem digit_any (c : UInt8) (w : World) :
    Calls Tryd.prog 74 #[.int .u8 c.toNat] w fun e w' => e = .returned (.int .i64 (unD c)) ∧ w = w' := by
  have h8 := c.toNat_lt
  unfold unD
  generalize c.toNat = n at h8
  have hn : (0 : Int) ≤ (n : Int) := Int.natCast_nonneg _
  by_cases h1 : 48 ≤ n ∧ n ≤ 57
  · rw [if_pos h1]
    have a1 : (48 : Int) ≤ (n : Int) := by omega
    have a2 : (n : Int) ≤ 57 := by omega
    have hw : IntKind.u8.wrap ((n : Int) - 48) = (n : Int) - 48 := IntWalk.u8_in _ (by omega)
    have hw2 : IntKind.i64.wrap ((n : Int) - 48) = (n : Int) - 48 := IntWalk.i64_in _ (by omega)
    clear h1
    go_enter Tryd.func74, Tryd.ntmps74
    go_wp2_with fail
    go_ret
    exact ⟨rfl, rfl⟩
  · rw [if_neg h1]
    obtain ⟨cb, hcb⟩ : ∃ cb : Bool, cb = (decide ((48 : Int) ≤ (n : Int)) && decide ((n : Int) ≤ 57)) := ⟨_, rfl⟩
    have hcf : cb = false := by
      rw [hcb, Bool.and_eq_false_iff, decide_eq_false_iff_not, decide_eq_false_iff_not]
      omega
    by_cases h2 : 97 ≤ n ∧ n ≤ 102
    · rw [if_pos h2]
      have a1 : (97 : Int) ≤ (n : Int) := by omega
      have a2 : (n : Int) ≤ 102 := by omega
      have a3 : (48 : Int) ≤ (n : Int) := by omega
      have a4 : ¬ (n : Int) ≤ 57 := by omega
      have hw : IntKind.u8.wrap ((n : Int) - 97) = (n : Int) - 97 := IntWalk.u8_in _ (by omega)
      have hw2 : IntKind.i64.wrap ((n : Int) - 97) = (n : Int) - 97 := IntWalk.i64_in _ (by omega)
      have hw3 : IntKind.i64.wrap ((n : Int) - 97 + 10) = (n : Int) - 87 := by rw [IntWalk.i64_in _ (by omega)]; omega
      clear h1 h2 hcb hcf cb
      go_enter Tryd.func74, Tryd.ntmps74
      go_wp2_with fail
      go_ret
      exact ⟨rfl, rfl⟩
    · rw [if_neg h2]
      clear hcb hcf cb
      by_cases a1 : (48 : Int) ≤ (n : Int)
      · have a2 : ¬ (n : Int) ≤ 57 := by omega
        by_cases a3 : (97 : Int) ≤ (n : Int)
        · have a4 : ¬ (n : Int) ≤ 102 := by omega
          clear h1 h2
          go_enter Tryd.func74, Tryd.ntmps74
          go_wp2_with fail
          go_ret
          exact ⟨rfl, rfl⟩
        · clear h1 h2
          go_enter Tryd.func74, Tryd.ntmps74
          go_wp2_with fail
          go_ret
          exact ⟨rfl, rfl⟩
      · have a3 : ¬ (97 : Int) ≤ (n : Int) := by omega
        clear h1 h2
        go_enter Tryd.func74, Tryd.ntmps74
        go_wp2_with fail
        go_ret
        exact ⟨rfl, rfl⟩

set_option maxRecDepth 100000 in
set_option maxHeartbeats 1000000 in
theorem runhex_any (s : ByteArray) (w : World) (hs : s.size ≤ 35184372088000) :
    Calls Tryd.prog 59 #[.string s] w fun e w' => e = .returned (.tuple #[.string (unhexB s).1, .bool (unhexB s).2]) ∧ Below w.heap.size w w' := by
  by_cases hodd : s.size % 2 = 1
  · rw [unhexB_odd s hodd]
    have ho : (s.size : Int).tmod 2 = 1 := by rw [Int.tmod_eq_emod_of_nonneg (by omega)]; omega
    clear hodd
    go_enter Tryd.func59, Tryd.ntmps59
    go_wp2_with fail
    go_ret2
    exact ⟨rfl, Below.refl _ _⟩
  · have ho : (s.size : Int).tmod 2 = 0 := by rw [Int.tmod_eq_emod_of_nonneg (by omega)]; omega
    have HE := Lib.hid (show s.size % 2 = 0 by omega)
    clear hodd
    go_enter Tryd.func59, Tryd.ntmps59
    go_wp2_with fail
    go_loopw [4, 5] (fun v i wr => UnRel s w v i wr) (fun _ i _ => s.size - (intOf i).toNat)
    case atStart => exact ⟨0, ⟨#[]⟩, Nat.zero_le _, rfl, rfl, rfl, Nat.le_refl _, ownB_nil _ _, Below.refl _ _, Nat.le_refl _⟩
    case round =>
      obtain ⟨n, acc, hn, rfl, hpar, hg, hac, hO, hK, hsz⟩ := hrel
      have HO := Lib.hid hO
      have HK := Lib.hid hK
      have HP := Lib.hid hpar
      have HG := Lib.hid hg
      clear hO hK hpar hg
      by_cases hlt : n < s.size
      · have hlt2 : n + 1 < s.size := by have := HE.out; have := HP.out; omega
        have i0 := fun W => idx_str s n hlt W
        have i1 : ∀ W, (Instr.index 9 (.string s) (.int .i64 ((n : Int) + 1))).run Tryd.prog W = .ok (.int .u8 (s.data.toList.getD (n + 1) 0).toNat) W := fun W => idx_str s (n + 1) hlt2 W
        have hdr := drop_two s n hlt2
        generalize s.data.toList.getD n 0 = c at i0 hdr
        generalize s.data.toList.getD (n + 1) 0 = d at i1 hdr
        have hgo := HG.out
        rw [hdr, unhexGo_cons] at hgo
        have HD := Lib.hid hgo
        clear hdr hgo
        have hw1 : IntKind.i64.wrap ((n : Int) + 1) = (n : Int) + 1 := IntWalk.i64_in _ (by omega)
        have hw2 : IntKind.i64.wrap ((n : Int) + 2) = (n : Int) + 2 := IntWalk.i64_in _ (by omega)
        have hlti : (n : Int) < (s.size : Int) := by omega
        have hlti2 : (n : Int) + 1 < (s.size : Int) := by omega
        have hni : (0 : Int) ≤ (n : Int) := Int.natCast_nonneg _
        obtain ⟨H, hc1⟩ : ∃ H, unD c = H := ⟨_, rfl⟩
        obtain ⟨L, hc2⟩ : ∃ L, unD d = L := ⟨_, rfl⟩
        have hr1 := unD_range c
        have hr2 := unD_range d
        rw [hc1] at HD hr1
        rw [hc2] at HD hr2
        by_cases h1 : H < 0
        case' pos =>
          have hres := unhexB_none (HD.out.trans (if_pos (.inl h1)))
          have HR := Lib.hid hres
          clear hres
          go_wp2_with fail
          refine (digit_any c _).mono ?_
          rintro e w1 ⟨rfl, rfl⟩
          rw [hc1]
          go_wp2_with fail
          refine (digit_any d _).mono ?_
          rintro e w1 ⟨rfl, rfl⟩
          rw [hc2]
          all_goals
            go_wp2_with fail
            go_ret2
            rw [HR.out]
            exact ⟨rfl, HK.out⟩
        by_cases h2 : L < 0
        case' pos =>
          have hres := unhexB_none (HD.out.trans (if_pos (.inr h2)))
          have HR := Lib.hid hres
          clear hres
          go_wp2_with fail
          refine (digit_any c _).mono ?_
          rintro e w1 ⟨rfl, rfl⟩
          rw [hc1]
          go_wp2_with fail
          refine (digit_any d _).mono ?_
          rintro e w1 ⟨rfl, rfl⟩
          rw [hc2]
          all_goals
            go_wp2_with fail
            go_ret2
            rw [HR.out]
            exact ⟨rfl, HK.out⟩
        have hres := HD.out.trans (if_neg (show ¬ (H < 0 ∨ L < 0) by omega))
        have HR := Lib.hid hres
        have hwA : IntKind.i64.wrap (16 * H + L) = 16 * H + L := IntWalk.i64_in _ (by omega)
        have hx8 : (16 * H + L) % 256 = 16 * H + L := by omega
        have hwx : IntKind.u8.wrap (16 * H + L) = 16 * H + L := IntWalk.u8_in _ (by omega)
        have hwH : IntKind.i64.wrap (16 * H) = 16 * H := IntWalk.i64_in _ (by omega)
        clear hres
        go_wp2_with fail
        refine (digit_any c _).mono ?_
        rintro e w1 ⟨rfl, rfl⟩
        rw [hc1]
        go_wp2_with fail
        refine (digit_any d _).mono ?_
        rintro e w1 ⟨rfl, rfl⟩
        rw [hc2]
        have huse := trivial
        all_goals
          go_wp2_with (first | (at_builtin; refine wpList_appB _ rfl rfl _ _ rfl w.heap.size _ acc rfl (HO.out.alloc _) (oneB (16 * H + L)) ⟨wr.heap.size, 0, none⟩ 1 1 rfl rfl ?_ ?_ ?_ ?_) | fail)
          · exact cells_one hx8
          · rw [oneB_size]; omega
          · simp; omega
          intro v' w' ho hg
          have hkk : Below w.heap.size w w' ∧ w.heap.size ≤ w'.heap.size := below_app HK.out HO.out hsz _ hg
          have HF := Lib.hid (And.intro ho hkk)
          clear ho hg hkk
          go_wp2_with fail
          refine ⟨⟨n + 2, _, hlt2, rfl, (by have := HP.out; omega), HR.out, (by rw [ByteArray.size_append, oneB_size]; omega), HF.out.1, HF.out.2.1, HF.out.2.2⟩, ?_⟩
          show s.size - ((n : Int) + 2).toNat < s.size - (n : Int).toNat
          omega
      · obtain rfl : n = s.size := by omega
        have hend : unhexGo ⟨#[]⟩ s.data.toList = some acc := by
          rw [HG.out, show s.size = s.data.toList.length from Array.length_toList.symm, List.drop_length]
          unfold unhexGo
          rfl
        have HX := Lib.hid (unhexB_some hend)
        have HR := Lib.hid (run_str HO.out)
        clear hend
        go_wp2_with fail
        rw [HR.out]
        simp only [Result.andThen]
        rw [Oper.upon_value]
        go_wp2_with fail
        go_ret2
        rw [HX.out]
        exact ⟨rfl, HK.out⟩
end Go.Proofs.YtffolbdimkhmmaaDoor
