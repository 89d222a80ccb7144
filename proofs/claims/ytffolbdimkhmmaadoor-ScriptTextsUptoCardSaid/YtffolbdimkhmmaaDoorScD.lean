import Derived.Test.YtffolbdimkhmmaaDoorScB
import Derived.Test.YtffolbdimkhmmaaDoorSl
set_option linter.unusedVariables false
set_option linter.unusedSimpArgs false
namespace Go.Proofs.YtffolbdimkhmmaaDoor
open Go Go.RowKit Go.Lib

/-! ### words: numbers and texts -/
theorem num_ok {s : ByteArray} {v : Int} (h : Lib.atoiAll s.data.toList = .ok v) : atoiR s = (v, true) ∧ numP s = if itoaB v = s then some v else none := by
  refine ⟨by unfold atoiR; rw [h], ?_⟩
  unfold numP numL
  rw [h]
  have : (itoaB v = s) ↔ (Lib.itoa v = s.data.toList) := ⟨fun e => by rw [← e]; rfl, fun e => ba_ext (by rw [← e]; rfl)⟩
  by_cases e : Lib.itoa v = s.data.toList
  · rw [if_pos (this.2 e)]; exact if_pos e
  · rw [if_neg (fun x => e (this.1 x))]; exact if_neg e
theorem num_bad {s : ByteArray} (h : (atoiR s).2 = false) : numP s = none := by
  unfold atoiR at h
  unfold numP numL
  cases hc : Lib.atoiAll s.data.toList with
  | ok v => rw [hc] at h; cases h
  | range => rfl
  | _ => rfl
theorem num_good {s : ByteArray} (h : (atoiR s).2 = true) : Lib.atoiAll s.data.toList = .ok (atoiR s).1 := by
  unfold atoiR at h ⊢
  cases hc : Lib.atoiAll s.data.toList with
  | ok v => rfl
  | range => rw [hc] at h; cases h
  | _ => rw [hc] at h; cases h
def WholePost (s : ByteArray) (w : World) (e : Ending) (w' : World) : Prop := ∃ n : Int, e = .returned (.tuple #[.int .i64 n, .bool (numP s).isSome]) ∧ (∀ x, numP s = some x → n = x) ∧ -9223372036854775808 ≤ n ∧ n ≤ 9223372036854775807 ∧ Below w.heap.size w w'
theorem atoiR_range (s : ByteArray) : -9223372036854775808 ≤ (atoiR s).1 ∧ (atoiR s).1 ≤ 9223372036854775807 := by
  cases hc : Lib.atoiAll s.data.toList with
  | ok v => rw [(num_ok hc).1]; exact atoi_range hc
  | range =>
    unfold atoiR
    rw [hc]
    show -9223372036854775808 ≤ Lib.atoiSat s.data.toList ∧ Lib.atoiSat s.data.toList ≤ 9223372036854775807
    unfold Lib.atoiSat
    split <;> omega
  | _ =>
    unfold atoiR
    rw [hc]
    show (-9223372036854775808 : Int) ≤ 0 ∧ (0 : Int) ≤ 9223372036854775807
    omega
set_option maxRecDepth 100000 in
set_option maxHeartbeats 1000000 in
theorem whole_any (s : ByteArray) (w : World) (hs : s.size ≤ 281474976710656) (hV : VarsV w) :
    Calls Tryd.prog 48 #[.string s] w (WholePost s w) := by
  have HR := Lib.hid (atoiR_range s)
  have HA := Lib.hid (atoi_anyV s w hs hV)
  have HV := Lib.hid hV
  have hg := @num_good s
  have hb := @num_bad s
  have HG := Lib.hid hg
  have HB := Lib.hid hb
  clear hV hg hb
  go_enter Tryd.func48, Tryd.ntmps48
  go_wp2_with fail
  refine HA.out.mono ?_
  rintro e w1 ⟨er, rfl, her, hb1⟩
  generalize hn : (atoiR s).1 = n at HR HG
  have HN := Lib.hid hn
  clear hn
  rcases her with ⟨hok, rfl⟩ | ⟨hok, t, N, rfl⟩
  · have ho := num_ok (HG.out hok)
    have HO := Lib.hid ho
    have HI := Lib.hid (itoa_any n w1 HR.out.1 HR.out.2 (HV.out.below hb1))
    have HB1 := Lib.hid hb1
    clear ho hok hb1
    go_wp2_with fail
    refine HI.out.mono ?_
    rintro e w2 ⟨rfl, hb2⟩
    have HB2 := Lib.hid (HB1.out.trans (hb2.mono HB1.out.size))
    clear hb2 HI
    go_wp2_with fail
    rw [toList_eqbV]
    go_ret2
    refine ⟨n, ?_, fun x hx => ?_, HR.out.1, HR.out.2, HB2.out⟩
    · rw [HO.out.2]
      by_cases e : itoaB n = s
      · rw [if_pos e, decide_eq_true e]; rfl
      · rw [if_neg e, decide_eq_false e]; rfl
    · rw [HO.out.2] at hx
      split at hx
      · exact Option.some.inj hx
      · cases hx
  · have HNo := Lib.hid (HB.out hok)
    have HB1 := Lib.hid hb1
    clear hok hb1
    go_wp2_with fail
    go_ret2
    exact ⟨n, by rw [HNo.out]; rfl, (fun x hx => by rw [HNo.out] at hx; cases hx), HR.out.1, HR.out.2, HB1.out⟩

/-! printable -/
def prtB (s : ByteArray) : Bool := prB s && decide (s.size ≠ 0)
theorem prB_take {s : ByteArray} (k : Nat) (h : k < s.size) (hp : (s.data.toList.take k).all (fun c => decide (33 ≤ c.toNat) && decide (c.toNat ≤ 126)) = true) :
    (s.data.toList.take (k + 1)).all (fun c => decide (33 ≤ c.toNat) && decide (c.toNat ≤ 126)) = (decide (33 ≤ (s.data.toList.getD k 0).toNat) && decide ((s.data.toList.getD k 0).toNat ≤ 126)) := by
  have e : s.data.toList.take (k + 1) = s.data.toList.take k ++ [s.data.toList.getD k 0] := by
    have hl : k < s.data.toList.length := by rw [← size_data]; exact h
    rw [List.take_succ_eq_append_getElem hl, getD_of hl]
  rw [e, List.all_append, hp]
  simp
theorem prB_bad {s : ByteArray} (k : Nat) (h : k < s.size) (hp : (decide (33 ≤ (s.data.toList.getD k 0).toNat) && decide ((s.data.toList.getD k 0).toNat ≤ 126)) = false) : prB s = false := by
  have hl : k < s.data.toList.length := by rw [← size_data]; exact h
  cases hb : prB s with
  | false => rfl
  | true =>
    have := prB_mem hb (c := s.data.toList.getD k 0) (by rw [getD_of hl]; exact List.getElem_mem hl)
    rw [decide_eq_true this.1, decide_eq_true this.2] at hp
    cases hp
def PrRel (s : ByteArray) (i : Value) : Prop := ∃ k : Nat, k ≤ s.size ∧ i = .int .i64 k ∧ (s.data.toList.take k).all (fun c => decide (33 ≤ c.toNat) && decide (c.toNat ≤ 126)) = true
set_option maxRecDepth 100000 in
set_option maxHeartbeats 1000000 in
theorem printable_any (s : ByteArray) (w : World) (hs : s.size ≤ 35184372088000) :
    Calls Tryd.prog 63 #[.string s] w fun e w' => e = .returned (.bool (prtB s)) ∧ w = w' := by
  go_enter Tryd.func63, Tryd.ntmps63
  go_wp2_with fail
  go_loop [6] (fun i => PrRel s i) (fun i => s.size - (intOf i).toNat)
  case atStart => exact ⟨0, Nat.zero_le _, rfl, rfl⟩
  case round =>
    obtain ⟨k, hk, rfl, hp⟩ := hrel
    have HP := Lib.hid hp
    clear hp
    by_cases hlt : k < s.size
    · have hix := fun W => idx_str s k hlt W
      have ht := prB_take (s := s) k hlt HP.out
      have hbd := prB_bad (s := s) k hlt
      generalize s.data.toList.getD k 0 = d at hix ht hbd
      have HT := Lib.hid ht
      have HB := Lib.hid hbd
      clear ht hbd
      have hk1 : (k : Int) < (s.size : Int) := by omega
      by_cases h1 : d.toNat ≤ 32
      · have h1i : (d.toNat : Int) ≤ 32 := by omega
        have hF := HB.out (by rw [decide_eq_false (by omega)]; rfl)
        have HF := Lib.hid hF
        clear hF h1
        go_wp2_with fail
        go_ret
        exact ⟨by rw [prtB, HF.out]; rfl, rfl⟩
      · have h1i : ¬ (d.toNat : Int) ≤ 32 := by omega
        by_cases h2 : 126 < d.toNat
        · have h2i : (126 : Int) < (d.toNat : Int) := by omega
          have hF := HB.out (by rw [decide_eq_false (show ¬ d.toNat ≤ 126 by omega), Bool.and_false])
          have HF := Lib.hid hF
          clear hF h1 h2
          go_wp2_with fail
          go_ret
          exact ⟨by rw [prtB, HF.out]; rfl, rfl⟩
        · have h2i : ¬ (126 : Int) < (d.toNat : Int) := by omega
          have hF := HT.out
          rw [decide_eq_true (show 33 ≤ d.toNat by omega), decide_eq_true (show d.toNat ≤ 126 by omega)] at hF
          have HF := Lib.hid hF
          clear hF h1 h2
          go_wp2_with fail
          go_round
          case rel => exact ⟨k + 1, hlt, by go_num, HF.out⟩
          case measure => simp [intOf]; omega
    · obtain rfl : k = s.size := by omega
      have hF : prB s = true := by
        have := HP.out
        rwa [List.take_of_length_le (by rw [← size_data]; omega)] at this
      have HF := Lib.hid hF
      clear hF
      by_cases hz : s.size = 0
      · have hemp : s.toList.isEmpty = true := by rw [toList_empty]; exact decide_eq_true hz
        have HZ := Lib.hid hz
        clear hz
        go_wp2_with fail
        go_ret
        exact ⟨by rw [prtB, HF.out, HZ.out]; rfl, rfl⟩
      · have hemp : s.toList.isEmpty = false := by rw [toList_empty]; exact decide_eq_false hz
        have HZ := Lib.hid hz
        clear hz
        go_wp2_with fail
        go_ret
        exact ⟨by rw [prtB, HF.out, decide_eq_true HZ.out]; rfl, rfl⟩

/-! text -/
def textV (w : ByteArray) : ByteArray × Bool :=
  if w = ⟨#[45]⟩ then (⟨#[]⟩, true)
  else if w.data.toList.head? = some 39 then (tailB w, prtB (tailB w))
  else ((unhexB w).1, (unhexB w).2 && decide ((unhexB w).1.size ≠ 0))
theorem size_ne (s : ByteArray) : (s.size ≠ 0) ↔ s ≠ ⟨#[]⟩ := by
  rw [size_data]
  exact ⟨fun h e => h (by rw [e]; rfl), fun h e => h (ba_ext (List.length_eq_zero_iff.1 e))⟩
theorem textP_V (w : ByteArray) : textP w = if (textV w).2 = true then some (textV w).1 else none := by
  unfold textP textV
  split
  · rfl
  · split
    · show (if tailB w ≠ ⟨#[]⟩ ∧ prB (tailB w) = true then _ else _) = if prtB (tailB w) = true then _ else _
      have : (tailB w ≠ ⟨#[]⟩ ∧ prB (tailB w) = true) ↔ prtB (tailB w) = true := by
        unfold prtB
        rw [Bool.and_eq_true, decide_eq_true_eq, size_ne]
        exact ⟨fun h => ⟨h.2, h.1⟩, fun h => ⟨h.2, h.1⟩⟩
      by_cases h : prtB (tailB w) = true
      · rw [if_pos h, if_pos (this.2 h)]
      · rw [if_neg h, if_neg (fun x => h (this.1 x))]
    · show (if (unhexB w).2 = true ∧ (unhexB w).1 ≠ ⟨#[]⟩ then _ else _) = if ((unhexB w).2 && decide ((unhexB w).1.size ≠ 0)) = true then _ else _
      have : ((unhexB w).2 = true ∧ (unhexB w).1 ≠ ⟨#[]⟩) ↔ ((unhexB w).2 && decide ((unhexB w).1.size ≠ 0)) = true := by
        rw [Bool.and_eq_true, decide_eq_true_eq, size_ne]
      by_cases h : ((unhexB w).2 && decide ((unhexB w).1.size ≠ 0)) = true
      · rw [if_pos h, if_pos (this.2 h)]
      · rw [if_neg h, if_neg (fun x => h (this.1 x))]
theorem has_apos (w : ByteArray) : Lib.hasPrefix w.data.toList [39] = decide (w.data.toList.head? = some 39) := by
  unfold Lib.hasPrefix
  cases h : w.data.toList with
  | nil => rfl
  | cons c r =>
    by_cases hc : c = 39
    · subst hc; rw [List.head?_cons, decide_eq_true rfl]; simp [List.isPrefixOf]
    · rw [List.head?_cons, decide_eq_false (fun e => hc (Option.some.inj e))]; simp [List.isPrefixOf, Ne.symm hc]
theorem trim_apos (w : ByteArray) (h : w.data.toList.head? = some 39) : (⟨(Lib.trimPrefix w.data.toList [39]).toArray⟩ : ByteArray) = tailB w := by
  have h1 := has_apos w
  rw [decide_eq_true h] at h1
  unfold Lib.trimPrefix tailB
  rw [if_pos h1]
  apply ba_ext
  rw [extract_data, List.take_of_length_le]
  · rfl
  · rw [List.length_drop, ← size_data]; omega
theorem dash_list : (⟨#[45]⟩ : ByteArray).toList = [45] := by rw [ByteArray.toList_eq]
def TextPost (s : ByteArray) (w : World) (e : Ending) (w' : World) : Prop := e = .returned (.tuple #[.string (textV s).1, .bool (textV s).2]) ∧ Below w.heap.size w w'
set_option maxRecDepth 100000 in
set_option maxHeartbeats 1000000 in
theorem text_any (s : ByteArray) (w : World) (hs : s.size ≤ 35184372088000) :
    Calls Tryd.prog 44 #[.string s] w (TextPost s w) := by
  have hC := Tryd.strings_CutPrefix s ⟨#[39]⟩
  rw [show (⟨#[39]⟩ : ByteArray).data.toList = [39] from rfl, has_apos] at hC
  have HC := Lib.hid hC
  have htl : (tailB s).size ≤ s.size := by
    unfold tailB
    rw [size_data, extract_data, List.length_take, List.length_drop, ← size_data]; omega
  have HT := Lib.hid (printable_any (tailB s))
  have HU := Lib.hid (unhex_any s)
  clear hC
  by_cases h1 : s = ⟨#[45]⟩
  · have hr : textV s = (⟨#[]⟩, true) := by unfold textV; rw [if_pos h1]
    have HR := Lib.hid hr
    have hq : (s.toList == ([45] : List UInt8)) = true := by rw [← dash_list, toList_eqbV]; exact decide_eq_true h1
    clear hr h1
    go_enter Tryd.func44, Tryd.ntmps44
    go_wp2_with fail
    go_ret2
    exact ⟨by rw [HR.out]; rfl, Below.refl _ _⟩
  · have hq : (s.toList == ([45] : List UInt8)) = false := by rw [← dash_list, toList_eqbV]; exact decide_eq_false h1
    by_cases h2 : s.data.toList.head? = some 39
    · have hr : textV s = (tailB s, prtB (tailB s)) := by unfold textV; rw [if_neg h1, if_pos h2]
      have ht := trim_apos s h2
      have hd := decide_eq_true h2
      have HR := Lib.hid hr
      have HT2 := Lib.hid ht
      have HD := Lib.hid hd
      clear hr h1 h2 ht hd
      go_enter Tryd.func44, Tryd.ntmps44
      go_wp2_with fail
      refine (HC.out w).mono ?_
      rw [HT2.out, HD.out]
      rintro e w1 ⟨rfl, rfl⟩
      go_wp2_with fail
      refine (HT.out w1 (by omega)).mono ?_
      rintro e w2 ⟨rfl, rfl⟩
      go_wp2_with fail
      go_ret2
      exact ⟨by rw [HR.out]; rfl, Below.refl _ _⟩
    · have hr : textV s = ((unhexB s).1, (unhexB s).2 && decide ((unhexB s).1.size ≠ 0)) := by unfold textV; rw [if_neg h1, if_neg h2]
      have hd := decide_eq_false h2
      have HR := Lib.hid hr
      have HD := Lib.hid hd
      clear hr h1 h2 hd
      go_enter Tryd.func44, Tryd.ntmps44
      go_wp2_with fail
      refine (HC.out w).mono ?_
      rw [HD.out]
      rintro e w1 ⟨rfl, rfl⟩
      go_wp2_with fail
      refine (HU.out w1 hs).mono ?_
      generalize (unhexB s).1 = u at HR ⊢
      generalize (unhexB s).2 = ok at HR ⊢
      rintro e w2 ⟨rfl, hb2⟩
      have HB := Lib.hid hb2
      clear hb2
      have hemp := toList_empty u
      cases ok with
      | false =>
        go_wp2_with fail
        go_ret2
        exact ⟨by rw [HR.out]; rfl, HB.out⟩
      | true =>
        by_cases hz : u.size = 0
        · rw [decide_eq_true hz] at hemp
          have HZ := Lib.hid hz
          clear hz
          go_wp2_with fail
          go_ret2
          exact ⟨by rw [HR.out, HZ.out]; rfl, HB.out⟩
        · rw [decide_eq_false hz] at hemp
          have HZ := Lib.hid hz
          clear hz
          go_wp2_with fail
          go_ret2
          exact ⟨by rw [HR.out, decide_eq_true HZ.out]; rfl, HB.out⟩
set_option maxRecDepth 100000 in
set_option maxHeartbeats 1000000 in
theorem word_any (s : ByteArray) (w : World) (hs : s.size ≤ 35184372088000) :
    Calls Tryd.prog 46 #[.string s] w fun e w' => e = .returned (.string (wordP s)) ∧ Below w.heap.size w w' := by
  have HP := Lib.hid (printable_any s)
  have HX := Lib.hid (hex_any s)
  have hemp := toList_empty s
  by_cases hz : s.size = 0
  · have hr : wordP s = ⟨#[45]⟩ := by unfold wordP; rw [if_pos (Classical.byContradiction fun h => (size_ne s).2 h hz)]
    rw [decide_eq_true hz] at hemp
    have HR := Lib.hid hr
    clear hr hz
    go_enter Tryd.func46, Tryd.ntmps46
    go_wp2_with fail
    go_ret
    exact ⟨by rw [HR.out]; rfl, Below.refl _ _⟩
  · rw [decide_eq_false hz] at hemp
    have hne := (size_ne s).1 hz
    by_cases hp : prB s = true
    · have hr : wordP s = ⟨#[39]⟩ ++ s := by unfold wordP; rw [if_neg hne, if_pos hp]
      have hq : prtB s = true := by unfold prtB; rw [hp, decide_eq_true hz]; rfl
      have HR := Lib.hid hr
      have HQ := Lib.hid hq
      have hroom : ¬ 9223372036854775807 < (⟨#[39]⟩ : ByteArray).size + s.size := by rw [show (⟨#[39]⟩ : ByteArray).size = 1 from rfl]; omega
      have hroom2 : ¬ 9223372036854775807 < 1 + s.size := by omega
      clear hr hz hp hq hne
      go_enter Tryd.func46, Tryd.ntmps46
      go_wp2_with fail
      refine (HP.out w hs).mono ?_
      rw [HQ.out]
      rintro e w1 ⟨rfl, rfl⟩
      go_wp2_with fail
      go_ret
      exact ⟨by rw [HR.out]; rfl, Below.refl _ _⟩
    · have hr : wordP s = hexB s := by unfold wordP; rw [if_neg hne, if_neg hp]
      have hq : prtB s = false := by unfold prtB; rw [show prB s = false by simpa using hp]; rfl
      have HR := Lib.hid hr
      have HQ := Lib.hid hq
      clear hr hz hp hq hne
      go_enter Tryd.func46, Tryd.ntmps46
      go_wp2_with fail
      refine (HP.out w hs).mono ?_
      rw [HQ.out]
      rintro e w1 ⟨rfl, rfl⟩
      go_wp2_with fail
      refine (HX.out w hs).mono ?_
      rintro e w2 ⟨rfl, hb2⟩
      have HB := Lib.hid hb2
      clear hb2
      go_wp2_with fail
      go_ret
      exact ⟨by rw [HR.out]; rfl, HB.out⟩
end Go.Proofs.YtffolbdimkhmmaaDoor
