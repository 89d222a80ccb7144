import Derived.Test.YtmejjphliaiamaaGreatDoorPkA
import Derived.Lib.ConvBytes
import Derived.Lib.AtoiErrMem
import Derived.Deep.DeepCutAuto
set_option linter.unusedVariables false
namespace Go.Proofs.YtmejjphliaiamaaGreatDoor
open Go Go.RowKit Go.Lib

/-! ### the program's reader -/
def RdP (T : TypeId) (b : Nat) (r : RS) (w w' : World) : Prop := Rdr T w' b r ∧ Kp (fun k => k = b) w w'
theorem Rdr.refl {T : TypeId} {b : Nat} {r : RS} {w : World} (h : Rdr T w b r) : RdP T b r w w := ⟨h, Kp.refl _ _⟩
theorem RdP.trans {T : TypeId} {b : Nat} {r r' : RS} {w w1 w2 : World} (h : RdP T b r w w1) (k : RdP T b r' w1 w2) : RdP T b r' w w2 := ⟨k.1, h.2.trans k.2⟩
theorem Rdr.setE {T : TypeId} {b : Nat} {r : RS} {w : World} (h : Rdr T w b r) (e : Int) : RdP T b (r.1, e) w (w.setCell ⟨b, 1, none⟩ (.int .i64 e)) :=
  ⟨blk_set h _, Kp.setCell (S := fun k => k = b) (Kp.refl _ _) (p := ⟨b, 1, none⟩) (.inl rfl) _⟩
theorem Rdr.setS {T : TypeId} {b : Nat} {r : RS} {w : World} (h : Rdr T w b r) (s : ByteArray) : RdP T b (s, r.2) w (w.setCell ⟨b, 0, none⟩ (.string s)) :=
  ⟨blk_set h _, Kp.setCell (S := fun k => k = b) (Kp.refl _ _) (p := ⟨b, 0, none⟩) (.inl rfl) _⟩

set_option maxRecDepth 100000 in
theorem err_any (b : Nat) (r : RS) (w : World) (h : Rdr 136 w b r) :
    Calls Tryz.prog 112 #[.pointer (some ⟨b, 0, none⟩)] w fun e w' => e = .returned (.int .i64 r.2) ∧ w = w' := by
  obtain ⟨⟨c0, c1⟩, -, -⟩ := h.cells
  clear h
  go_enter Tryz.func112, Tryz.ntmps112
  go_wp2_with fail
  go_ret
  exact ⟨rfl, rfl⟩
theorem left_any (b : Nat) (r : RS) (w : World) (h : Rdr 136 w b r) :
    Calls Tryz.prog 110 #[.pointer (some ⟨b, 0, none⟩)] w fun e w' => e = .returned (.int .i64 r.1.size) ∧ w = w' := by
  obtain ⟨⟨c0, c1⟩, -, -⟩ := h.cells
  clear h
  go_enter Tryz.func110, Tryz.ntmps110
  go_wp2_with fail
  go_ret
  exact ⟨rfl, rfl⟩
theorem fail_any (b : Nat) (r : RS) (n : Int) (w : World) (h : Rdr 136 w b r) :
    Calls Tryz.prog 111 #[.pointer (some ⟨b, 0, none⟩), .int .i64 n] w fun e w' => e = .returned (.tuple #[]) ∧ RdP 136 b (rFail r n) w w' := by
  have HE := Lib.hid (err_any b r w h)
  have H := Lib.hid h
  obtain ⟨⟨c0, c1⟩, f0, f1⟩ := h.cells
  clear h
  unfold rFail
  by_cases he : r.2 = 0
  · have hb : (r.2 == 0) = true := beq_iff_eq.2 he
    rw [if_pos he]
    clear he
    go_enter Tryz.func111, Tryz.ntmps111
    go_wp2_with fail
    refine HE.out.mono ?_
    rintro e w1 ⟨rfl, rfl⟩
    go_wp2_with fail
    go_end0
    exact ⟨rfl, H.out.setE n⟩
  · have hb : (r.2 == 0) = false := beq_eq_false_iff_ne.2 he
    rw [if_neg he]
    clear he
    go_enter Tryz.func111, Tryz.ntmps111
    go_wp2_with fail
    refine HE.out.mono ?_
    rintro e w1 ⟨rfl, rfl⟩
    go_wp2_with fail
    go_end0
    exact ⟨rfl, H.out.refl⟩

set_option maxRecDepth 100000 in
set_option maxHeartbeats 1000000 in
theorem raw_any (b : Nat) (r : RS) (n : Int) (w : World) (hs : r.1.size ≤ 9223372036854775807) (h : Rdr 136 w b r) :
    Calls Tryz.prog 116 #[.pointer (some ⟨b, 0, none⟩), .int .i64 n] w fun e w' => e = .returned (.string (rRaw r n).1) ∧ RdP 136 b (rRaw r n).2 w w' := by
  have HE := Lib.hid (err_any b r w h)
  have H := Lib.hid h
  obtain ⟨⟨c0, c1⟩, f0, f1⟩ := h.cells
  clear h
  unfold rRaw
  by_cases he : r.2 ≠ 0
  · have hb : (r.2 == 0) = false := beq_eq_false_iff_ne.2 he
    rw [if_pos he]
    clear he
    go_enter Tryz.func116, Tryz.ntmps116
    go_wp2_with fail
    refine HE.out.mono ?_
    rintro e w1 ⟨rfl, rfl⟩
    go_wp2_with fail
    go_ret
    exact ⟨rfl, H.out.refl⟩
  · have he0 : r.2 = 0 := by omega
    have hb : (r.2 == 0) = true := beq_iff_eq.2 he0
    rw [if_neg he]
    have HE0 := Lib.hid he0
    clear he he0
    by_cases hn : n < 0
    · rw [if_pos hn]
      go_enter Tryz.func116, Tryz.ntmps116
      go_wp2_with fail
      refine HE.out.mono ?_
      rintro e w1 ⟨rfl, rfl⟩
      go_wp2_with fail
      go_ret
      exact ⟨rfl, H.out.setE 1⟩
    · rw [if_neg hn]
      have hn0 : 0 ≤ n := by omega
      by_cases hl : (r.1.size : Int) < n
      · rw [if_pos hl]
        go_enter Tryz.func116, Tryz.ntmps116
        go_wp2_with fail
        refine HE.out.mono ?_
        rintro e w1 ⟨rfl, rfl⟩
        go_wp2_with fail
        go_ret
        exact ⟨rfl, H.out.setE 2⟩
      · rw [if_neg hl]
        have hl' : n ≤ (r.1.size : Int) := by omega
        go_enter Tryz.func116, Tryz.ntmps116
        go_wp2_with fail
        refine HE.out.mono ?_
        rintro e w1 ⟨rfl, rfl⟩
        go_wp2_with fail
        go_ret
        exact ⟨rfl, H.out.setS _⟩

theorem or_i64 (X C : Nat) (hC : C < 256) (hX : 256 * X + C < 9223372036854775808) : bits .or .i64 ((X : Int) * 256) (C : Int) = ((256 * X + C : Nat) : Int) := by
  show IntKind.i64.wrap ((BitVec.ofInt 64 ((X : Int) * 256) ||| BitVec.ofInt 64 (C : Int)).toNat : Int) = _
  have e1 : BitVec.ofInt 64 ((X : Int) * 256) = BitVec.ofNat 64 (X * 256) := by
    rw [show (X : Int) * 256 = ((X * 256 : Nat) : Int) by omega]
    exact BitVec.ofInt_natCast _ _
  have e2 : BitVec.ofInt 64 (C : Int) = BitVec.ofNat 64 C := BitVec.ofInt_natCast _ _
  rw [e1, e2, BitVec.toNat_or, BitVec.toNat_ofNat, BitVec.toNat_ofNat, Nat.mod_eq_of_lt (by omega), Nat.mod_eq_of_lt (by omega)]
  have e3 : X * 256 ||| C = 256 * X + C := by
    have h := Nat.shiftLeft_add_eq_or_of_lt (show C < 2 ^ 8 by omega) X
    rw [Nat.shiftLeft_eq] at h
    have h256 : (2 : Nat) ^ 8 = 256 := by decide
    rw [h256] at h
    omega
  rw [e3]
  exact IntWalk.i64_in _ (by omega)
def NumL (s : ByteArray) (w : World) (x i : Value) (wr : World) : Prop := ∃ k : Nat, k ≤ s.size ∧ i = .int .i64 k ∧ x = .int .i64 (beL (s.data.toList.take k)) ∧ w = wr

set_option maxRecDepth 100000 in
set_option maxHeartbeats 1000000 in
theorem rn_any (b : Nat) (r : RS) (n : Nat) (w : World) (hn : n ≤ 7 ∨ (n = 8 ∧ (topBad r.1 = true → r.2 ≠ 0))) (hs : r.1.size ≤ 9223372036854775807) (h : Rdr 136 w b r) :
    Calls Tryz.prog 109 #[.pointer (some ⟨b, 0, none⟩), .int .i64 n] w fun e w' => e = .returned (.int .i64 (rNum r n).1) ∧ RdP 136 b (rNum r n).2 w w' := by
  have HE := Lib.hid (raw_any b r n w hs h)
  have hfit := raw_fits r n hn
  have hle := (rRaw_size r n).1
  have hlen := rRaw_len r n
  have hres : (rNum r n).1 = beL (rRaw r n).1.data.toList := rfl
  have hres2 : (rNum r n).2 = (rRaw r n).2 := rfl
  rw [hres, hres2]
  clear h hres hres2
  generalize (rRaw r n).1 = s at hfit hle hlen HE ⊢
  generalize (rRaw r n).2 = r' at HE ⊢
  go_enter Tryz.func109, Tryz.ntmps109
  go_wp2_with fail
  refine HE.out.mono ?_
  rintro e w1 ⟨rfl, hP⟩
  have HP := Lib.hid hP
  clear hP HE
  go_wp2_with fail
  rw [Lib.run_convert_string_bytes w1 9 47 5 s Tryz.underlying9 Tryz.underlying47 Tryz.underlying5]
  simp only [Result.andThen]
  rw [Oper.upon_value]
  have hcell := fun j hj => Lib.bytesWorld_cell w1 5 s j hj
  have hbel := Lib.bytesWorld_below w1 5 s
  generalize Lib.bytesWorld w1 5 s = w2 at hcell hbel ⊢
  have HC := Lib.hid hcell
  have HF : Hid (RdP 136 b r' w w2) := Lib.hid ⟨blk_later HP.out.1 hbel, HP.out.2.below hbel⟩
  clear hcell hbel
  go_wp2_with fail
  go_loopw [5, 13] (fun x i wr => NumL s w2 x i wr) (fun _ i _ => s.size - (intOf i).toNat)
  case atStart => exact ⟨0, Nat.zero_le _, rfl, rfl, rfl⟩
  case round =>
    obtain ⟨k, hk, rfl, rfl, rfl⟩ := hrel
    by_cases hlt : k < s.size
    · have hsn : beL (s.data.toList.take (k + 1)) = 256 * beL (s.data.toList.take k) + (s.data.toList.getD k 0).toNat := by rw [take_snoc' s k hlt, beL_snoc]
      have hm := beL_take_le s.data.toList (k + 1)
      rw [hsn] at hm
      have HSN := Lib.hid hsn
      have hc := HC.out k hlt
      have hc8 := (s.data.toList.getD k 0).toNat_lt
      clear hsn
      generalize beL (s.data.toList.take k) = X at hm HSN ⊢
      generalize (s.data.toList.getD k 0).toNat = C at hm HSN hc hc8 ⊢
      go_wp2_with fail
      refine ⟨⟨k + 1, hlt, rfl, ?_, rfl⟩, ?_⟩
      · rw [or_i64 X C hc8 (by omega), HSN.out]
      · show s.size - ((k : Int) + 1).toNat < s.size - (k : Int).toNat
        omega
    · obtain rfl : k = s.size := by omega
      have hall : s.data.toList.take s.size = s.data.toList := List.take_of_length_le (by rw [Array.length_toList]; exact Nat.le_refl _)
      rw [hall]
      clear hall
      go_wp2_with fail
      go_ret
      exact ⟨rfl, HF.out⟩

theorem r1_any (b : Nat) (r : RS) (w : World) (hs : r.1.size ≤ 9223372036854775807) (h : Rdr 136 w b r) :
    Calls Tryz.prog 42 #[.pointer (some ⟨b, 0, none⟩)] w fun e w' => e = .returned (.int .i64 (rNum r 1).1) ∧ RdP 136 b (rNum r 1).2 w w' := by
  have HC := Lib.hid (rn_any b r 1 w (.inl (by decide)) hs h)
  clear h
  go_enter Tryz.func42, Tryz.ntmps42
  go_wp2_with fail
  refine HC.out.mono ?_
  rintro e w1 ⟨rfl, h1⟩
  have H1 := Lib.hid h1
  clear h1 HC
  go_wp2_with fail
  go_ret
  exact ⟨rfl, H1.out⟩

theorem r2_any (b : Nat) (r : RS) (w : World) (hs : r.1.size ≤ 9223372036854775807) (h : Rdr 136 w b r) :
    Calls Tryz.prog 43 #[.pointer (some ⟨b, 0, none⟩)] w fun e w' => e = .returned (.int .i64 (rNum r 2).1) ∧ RdP 136 b (rNum r 2).2 w w' := by
  have HC := Lib.hid (rn_any b r 2 w (.inl (by decide)) hs h)
  clear h
  go_enter Tryz.func43, Tryz.ntmps43
  go_wp2_with fail
  refine HC.out.mono ?_
  rintro e w1 ⟨rfl, h1⟩
  have H1 := Lib.hid h1
  clear h1 HC
  go_wp2_with fail
  go_ret
  exact ⟨rfl, H1.out⟩

theorem rTxt2_size (r : RS) (most : Int) : (rTxt2 r most).1.size ≤ r.1.size := by
  unfold rTxt2 rNum rFail
  split
  · split
    · exact (rRaw_size r 2).2
    · exact (rRaw_size r 2).2
  · exact (rRaw_size r 2).2
set_option maxRecDepth 100000 in
set_option maxHeartbeats 1000000 in
theorem rtxt_any (b : Nat) (r : RS) (most : Int) (w : World) (hm : 0 ≤ most ∧ most ≤ 9223372036854775807) (hs : r.1.size ≤ 9223372036854775807) (h : Rdr 136 w b r) :
    Calls Tryz.prog 54 #[.pointer (some ⟨b, 0, none⟩), .int .i64 most] w fun e w' => e = .returned (.string (rTxt r most).1) ∧ RdP 136 b (rTxt r most).2 w w' := by
  have HE := Lib.hid (err_any b r w h)
  have H := Lib.hid h
  have H2 := Lib.hid (r2_any b r w hs h)
  obtain ⟨⟨c0, c1⟩, f0, f1⟩ := h.cells
  clear h
  unfold rTxt
  by_cases he : r.2 ≠ 0
  · have hb : (r.2 == 0) = false := beq_eq_false_iff_ne.2 he
    rw [if_pos he]
    clear he
    go_enter Tryz.func54, Tryz.ntmps54
    go_wp2_with fail
    refine HE.out.mono ?_
    rintro e w1 ⟨rfl, rfl⟩
    go_wp2_with fail
    go_ret
    exact ⟨rfl, H.out.refl⟩
  · have hb : (r.2 == 0) = true := beq_iff_eq.2 (by omega)
    rw [if_neg he]
    clear he
    have hx := raw_fits r 2 (.inl (by decide))
    have hsz := rTxt2_size r most
    have hdef : rTxt2 r most = if max most 0 < (rNum r 2).1 then rFail (rNum r 2).2 4 else (rNum r 2).2 := rfl
    have hx0 : (rNum r 2).1 = beL (rRaw r ((2 : Nat) : Int)).1.data.toList := rfl
    have hx1 : 0 ≤ (rNum r 2).1 ∧ (rNum r 2).1 ≤ 9223372036854775807 := by rw [hx0]; omega
    rw [Int.max_eq_left hm.1] at hdef
    clear hx hx0
    generalize (rNum r 2).1 = x at hdef hx1 H2 ⊢
    generalize (rNum r 2).2 = r1 at hdef H2 ⊢
    generalize rTxt2 r most = r2 at hdef hsz ⊢
    have HR : ∀ W, Rdr 136 W b r2 → Calls Tryz.prog 116 #[.pointer (some ⟨b, 0, none⟩), .int .i64 x] W fun e w' => e = .returned (.string (rRaw r2 x).1) ∧ RdP 136 b (rRaw r2 x).2 W w' := fun W hW => raw_any b r2 x W (by omega) hW
    generalize (rRaw r2 x).1 = s3 at HR ⊢
    generalize (rRaw r2 x).2 = r3 at HR ⊢
    have HR' := Lib.hid HR
    have HD := Lib.hid hdef
    clear HR hdef
    have hF1 : r3.2 ≠ 0 → (if r3.2 ≠ 0 then (r.1, r3.2) else r3) = (r.1, r3.2) := fun h => if_pos h
    have hF2 : ¬ r3.2 ≠ 0 → (if r3.2 ≠ 0 then (r.1, r3.2) else r3) = r3 := fun h => if_neg h
    generalize (if r3.2 ≠ 0 then (r.1, r3.2) else r3) = r4 at hF1 hF2 ⊢
    have HF1 := Lib.hid hF1
    have HF2 := Lib.hid hF2
    clear hF1 hF2
    go_enter Tryz.func54, Tryz.ntmps54
    go_wp2_with fail
    refine HE.out.mono ?_
    rintro e w1 ⟨rfl, rfl⟩
    go_wp2_with fail
    refine H2.out.mono ?_
    rintro e w2 ⟨rfl, hP⟩
    have HP := Lib.hid hP
    clear hP c0 c1 f0 f1 HE H2
    by_cases hbig : most < x
    case' pos =>
      have h2 : r2 = rFail r1 4 := by rw [HD.out, if_pos hbig]
      go_wp2_with fail
      refine (fail_any b r1 4 w2 HP.out.1).mono ?_
      rintro e w3 ⟨rfl, hP3⟩
      have HQ : Hid (RdP 136 b r2 w w3) := Lib.hid (by rw [h2]; exact HP.out.trans hP3)
      clear h2 hP3
    case' neg =>
      have h2 : r2 = r1 := by rw [HD.out, if_neg hbig]
      have HQ : Hid (RdP 136 b r2 w w2) := Lib.hid (by rw [h2]; exact HP.out)
      clear h2
    all_goals
      clear HP
      go_wp2_with fail
      refine (HR'.out _ HQ.out.1).mono ?_
      rintro e w5 ⟨rfl, hP5⟩
      have H5 := Lib.hid (HQ.out.trans hP5)
      obtain ⟨⟨c0, c1⟩, f0, f1⟩ := hP5.1.cells
      clear hP5 HQ
      by_cases hr3 : r3.2 ≠ 0
      · have hb3 : (r3.2 == 0) = false := beq_eq_false_iff_ne.2 hr3
        have hr4 := HF1.out hr3
        have HR4 := Lib.hid hr4
        clear hr3 hr4
        go_wp2_with fail
        go_ret
        refine ⟨rfl, ?_⟩
        rw [HR4.out]
        exact H5.out.trans (H5.out.1.setS r.1)
      · have hb3 : (r3.2 == 0) = true := beq_iff_eq.2 (by omega)
        have hr4 := HF2.out hr3
        have HR4 := Lib.hid hr4
        clear hr3 hr4
        go_wp2_with fail
        go_ret
        refine ⟨rfl, ?_⟩
        rw [HR4.out]
        exact H5.out

set_option maxRecDepth 100000 in
theorem rend_any (b : Nat) (r : RS) (w : World) (hs : r.1.size ≤ 9223372036854775807) (h : Rdr 136 w b r) :
    Calls Tryz.prog 45 #[.pointer (some ⟨b, 0, none⟩)] w fun e w' => e = .returned (.int .i64 (rEnd r).2) ∧ RdP 136 b (rEnd r) w w' := by
  have HL := Lib.hid (left_any b r w h)
  have HF := Lib.hid (fail_any b r 3 w h)
  have HE := Lib.hid (err_any b r w h)
  have H := Lib.hid h
  clear h
  unfold rEnd
  by_cases h0 : 0 < r.1.size
  · rw [if_pos h0]
    have h0' : (0 : Int) < (r.1.size : Int) := by omega
    go_enter Tryz.func45, Tryz.ntmps45
    go_wp2_with fail
    refine HL.out.mono ?_
    rintro e w1 ⟨rfl, rfl⟩
    go_wp2_with fail
    refine HF.out.mono ?_
    rintro e w1 ⟨rfl, hP⟩
    have HP := Lib.hid hP
    clear hP
    go_wp2_with fail
    refine (err_any b _ w1 HP.out.1).mono ?_
    rintro e w2 ⟨rfl, rfl⟩
    go_wp2_with fail
    go_ret
    exact ⟨rfl, HP.out⟩
  · rw [if_neg h0]
    have h0' : ¬ (0 : Int) < (r.1.size : Int) := by omega
    go_enter Tryz.func45, Tryz.ntmps45
    go_wp2_with fail
    refine HL.out.mono ?_
    rintro e w1 ⟨rfl, rfl⟩
    go_wp2_with fail
    refine HE.out.mono ?_
    rintro e w2 ⟨rfl, rfl⟩
    go_wp2_with fail
    go_ret
    exact ⟨rfl, H.out.refl⟩
theorem read_any (s : ByteArray) (w : World) :
    Calls Tryz.prog 41 #[.string s] w fun e w' => e = .returned (.pointer (some ⟨w.heap.size, 0, none⟩)) ∧ w' = w.alloc (.cells #[.string s, .int .i64 0] 136) := by
  go_enter Tryz.func41, Tryz.ntmps41
  go_wp2_with fail
  go_ret
  exact ⟨rfl, rfl⟩
theorem rdr_new (T : TypeId) (w : World) (s : ByteArray) : Rdr T (w.alloc (.cells #[.string s, .int .i64 0] T)) w.heap.size (s, 0) := blk_new _ _

/-! ### the document's reader -/
set_option maxRecDepth 100000 in
theorem qfail_any (b : Nat) (r : RS) (n : Int) (w : World) (h : Rdr 141 w b r) :
    Calls Tryz.prog 118 #[.pointer (some ⟨b, 0, none⟩), .int .i64 n] w fun e w' => e = .returned (.tuple #[]) ∧ RdP 141 b (rFail r n) w w' := by
  have H := Lib.hid h
  obtain ⟨⟨c0, c1⟩, f0, f1⟩ := h.cells
  clear h
  unfold rFail
  by_cases he : r.2 = 0
  · have hb : (r.2 == 0) = true := beq_iff_eq.2 he
    rw [if_pos he]
    clear he
    go_enter Tryz.func118, Tryz.ntmps118
    go_wp2_with fail
    go_end0
    exact ⟨rfl, H.out.setE n⟩
  · have hb : (r.2 == 0) = false := beq_eq_false_iff_ne.2 he
    rw [if_neg he]
    clear he
    go_enter Tryz.func118, Tryz.ntmps118
    go_wp2_with fail
    go_end0
    exact ⟨rfl, H.out.refl⟩

set_option maxRecDepth 100000 in
set_option maxHeartbeats 1000000 in
theorem qraw_any (b : Nat) (r : RS) (n : Int) (w : World) (hs : r.1.size ≤ 9223372036854775807) (h : Rdr 141 w b r) :
    Calls Tryz.prog 76 #[.pointer (some ⟨b, 0, none⟩), .int .i64 n] w fun e w' => e = .returned (.string (rRaw r n).1) ∧ RdP 141 b (rRaw r n).2 w w' := by
  have HF := Lib.hid (fun e => qfail_any b r e w h)
  have H := Lib.hid h
  obtain ⟨⟨c0, c1⟩, f0, f1⟩ := h.cells
  clear h
  unfold rRaw
  by_cases he : r.2 ≠ 0
  · have hb : (r.2 == 0) = false := beq_eq_false_iff_ne.2 he
    rw [if_pos he]
    clear he
    go_enter Tryz.func76, Tryz.ntmps76
    go_wp2_with fail
    go_ret
    exact ⟨rfl, H.out.refl⟩
  · have he0 : r.2 = 0 := by omega
    have hb : (r.2 == 0) = true := beq_iff_eq.2 he0
    rw [if_neg he]
    have hfl : ∀ e, rFail r e = (r.1, e) := fun e => if_pos he0
    have HE0 := Lib.hid he0
    have HFL := Lib.hid hfl
    clear he he0 hfl
    by_cases hn : n < 0
    · rw [if_pos hn]
      go_enter Tryz.func76, Tryz.ntmps76
      go_wp2_with fail
      refine (HF.out 1).mono ?_
      rintro e w1 ⟨rfl, hP⟩
      have HP := Lib.hid hP
      clear hP
      go_wp2_with fail
      go_ret
      exact ⟨rfl, by have := HP.out; rw [HFL.out] at this; exact this⟩
    · rw [if_neg hn]
      have hn0 : 0 ≤ n := by omega
      by_cases hl : (r.1.size : Int) < n
      · rw [if_pos hl]
        go_enter Tryz.func76, Tryz.ntmps76
        go_wp2_with fail
        refine (HF.out 2).mono ?_
        rintro e w1 ⟨rfl, hP⟩
        have HP := Lib.hid hP
        clear hP
        go_wp2_with fail
        go_ret
        exact ⟨rfl, by have := HP.out; rw [HFL.out] at this; exact this⟩
      · rw [if_neg hl]
        have hl' : n ≤ (r.1.size : Int) := by omega
        go_enter Tryz.func76, Tryz.ntmps76
        go_wp2_with fail
        go_ret
        exact ⟨rfl, H.out.setS _⟩

/-- a number of n bytes; of eight: the highest bit is refused first. -/
def qNum (r : RS) (n : Nat) : Int × RS := if n = 8 then rEight r else rNum r n
theorem qNum_small (r : RS) {n : Nat} (h : n ≠ 8) : qNum r n = rNum r n := if_neg h
def QRel (s : ByteArray) (w0 : World) (x i : Value) (wr : World) : Prop := ∃ k : Nat, k ≤ s.size ∧ i = .int .i64 k ∧ x = .int .i64 (beL (s.data.toList.take k)) ∧ w0 = wr
theorem getD_get (s : ByteArray) (k : Nat) (h : k < s.size) : s.data.toList.getD k 0 = s[k] := by
  have h2 : k < s.data.toList.length := by rw [Array.length_toList]; exact h
  rw [List.getD_eq_getElem?_getD, List.getElem?_eq_getElem h2]
  rfl

set_option maxRecDepth 100000 in
set_option maxHeartbeats 1000000 in
theorem qnum_any (b : Nat) (r : RS) (n : Nat) (w : World) (hn : n ≤ 8) (hs : r.1.size ≤ 9223372036854775807) (h : Rdr 141 w b r) :
    Calls Tryz.prog 74 #[.pointer (some ⟨b, 0, none⟩), .int .i64 n] w fun e w' => e = .returned (.int .i64 (qNum r n).1) ∧ RdP 141 b (qNum r n).2 w w' := by
  obtain ⟨r1, hr1⟩ : ∃ r1, r1 = if n = 8 ∧ topBad r.1 = true then rFail r 3 else r := ⟨_, rfl⟩
  have hq : qNum r n = rNum r1 n := by
    unfold qNum rEight
    by_cases h8 : n = 8
    · rw [if_pos h8, hr1]
      subst h8
      simp
    · rw [if_neg h8, hr1, if_neg (fun h => h8 h.1)]
  have hr1s : r1.1.size ≤ 9223372036854775807 := by
    rw [hr1]
    unfold rFail
    split
    · split <;> exact hs
    · exact hs
  have hfit := raw_fits r1 n (by
    by_cases h8 : n = 8
    · refine .inr ⟨h8, fun ht => ?_⟩
      subst hr1
      by_cases hb : topBad r.1 = true
      · rw [if_pos ⟨h8, hb⟩]
        unfold rFail
        split
        · exact (show (3 : Int) ≠ 0 by decide)
        · assumption
      · rw [if_neg (fun h => hb h.2)] at ht
        exact absurd ht hb
    · exact .inl (by omega))
  have hle := (rRaw_size r1 n).1
  have hlen := rRaw_len r1 n
  have HF := Lib.hid (qfail_any b r 3 w h)
  have HR : ∀ W, Rdr 141 W b r1 → Calls Tryz.prog 76 #[.pointer (some ⟨b, 0, none⟩), .int .i64 n] W fun e w' => e = .returned (.string (rRaw r1 n).1) ∧ RdP 141 b (rRaw r1 n).2 W w' := fun W hW => qraw_any b r1 n W hr1s hW
  have hres : (rNum r1 n).1 = beL (rRaw r1 n).1.data.toList := rfl
  have hres2 : (rNum r1 n).2 = (rRaw r1 n).2 := rfl
  rw [hq, hres, hres2]
  clear hq hres hres2
  generalize (rRaw r1 n).1 = s at hfit hle hlen HR ⊢
  generalize (rRaw r1 n).2 = r' at HR ⊢
  have HR' := Lib.hid HR
  have H := Lib.hid h
  have HR1 := Lib.hid hr1
  obtain ⟨⟨c0, c1⟩, f0, f1⟩ := h.cells
  clear HR h hr1
  go_enter Tryz.func74, Tryz.ntmps74
  have hsplit : (n = 8 ∧ r.2 = 0 ∧ ∃ h0 : 8 ≤ r.1.size, 128 ≤ (r.1[0]'(by omega)).toNat) ∨ (n ≠ 8) ∨ (n = 8 ∧ r.2 ≠ 0) ∨ (n = 8 ∧ r.2 = 0 ∧ r.1.size < 8) ∨ (n = 8 ∧ r.2 = 0 ∧ ∃ h0 : 8 ≤ r.1.size, (r.1[0]'(by omega)).toNat < 128) := by
    by_cases h1 : n = 8
    · by_cases h2 : r.2 = 0
      · by_cases h3 : 8 ≤ r.1.size
        · by_cases h4 : 128 ≤ (r.1[0]'(by omega)).toNat
          · exact .inl ⟨h1, h2, h3, h4⟩
          · exact .inr (.inr (.inr (.inr ⟨h1, h2, h3, by omega⟩)))
        · exact .inr (.inr (.inr (.inl ⟨h1, h2, by omega⟩)))
      · exact .inr (.inr (.inl ⟨h1, h2⟩))
    · exact .inr (.inl h1)
  rcases hsplit with hA | hA | hA | hA | hA
  case' inl =>
    obtain ⟨rfl, h2, h3, h4⟩ := hA
    have hr : r1 = rFail r 3 := by
      rw [HR1.out]
      refine if_pos ⟨rfl, ?_⟩
      unfold topBad
      rw [decide_eq_true h3, Bool.true_and]
      refine decide_eq_true ?_
      rw [getD_get r.1 0 (by omega)]
      exact h4
    have hb2 : (r.2 == 0) = true := beq_iff_eq.2 h2
    have hb3 : (8 : Int) ≤ (r.1.size : Int) := by omega
    have hb4 : (128 : Int) ≤ ((r.1[0]'(by omega)).toNat : Int) := by omega
    clear h2 h4
    go_wp2_with fail
    refine HF.out.mono ?_
    rintro e w2 ⟨rfl, hP⟩
    have HQ : Hid (RdP 141 b r1 w w2) := Lib.hid (by rw [hr]; exact hP)
    clear hP hr hb2 hb3 hb4
  case' inr.inl =>
    have hr : r1 = r := by
      rw [HR1.out]
      exact if_neg fun h => hA h.1
    have hb1 : ((n : Int) == 8) = false := beq_eq_false_iff_ne.2 (by omega)
    have HQ : Hid (RdP 141 b r1 w w) := Lib.hid (by rw [hr]; exact H.out.refl)
    clear hr hA
  case' inr.inr.inl =>
    obtain ⟨rfl, h2⟩ := hA
    have hr : r1 = r := by
      rw [HR1.out]
      unfold rFail
      rw [if_neg h2]
      split <;> rfl
    have hb2 : (r.2 == 0) = false := beq_eq_false_iff_ne.2 h2
    have HQ : Hid (RdP 141 b r1 w w) := Lib.hid (by rw [hr]; exact H.out.refl)
    clear hr h2
  case' inr.inr.inr.inl =>
    obtain ⟨rfl, h2, h3⟩ := hA
    have hr : r1 = r := by
      rw [HR1.out]
      refine if_neg fun h => ?_
      have h4 := h.2
      unfold topBad at h4
      rw [decide_eq_false (by omega), Bool.false_and] at h4
      cases h4
    have hb2 : (r.2 == 0) = true := beq_iff_eq.2 h2
    have hb3 : (r.1.size : Int) < 8 := by omega
    have HQ : Hid (RdP 141 b r1 w w) := Lib.hid (by rw [hr]; exact H.out.refl)
    clear hr h2 h3
  case' inr.inr.inr.inr =>
    obtain ⟨rfl, h2, h3, h4⟩ := hA
    have hr : r1 = r := by
      rw [HR1.out]
      refine if_neg fun h => ?_
      have h5 := h.2
      unfold topBad at h5
      rw [getD_get r.1 0 (by omega), decide_eq_false (p := 128 ≤ _) (by omega), Bool.and_false] at h5
      cases h5
    have hb2 : (r.2 == 0) = true := beq_iff_eq.2 h2
    have hb3 : (8 : Int) ≤ (r.1.size : Int) := by omega
    have hb4 : ((r.1[0]'(by omega)).toNat : Int) < 128 := by omega
    have HQ : Hid (RdP 141 b r1 w w) := Lib.hid (by rw [hr]; exact H.out.refl)
    clear hr h2 h4
  all_goals
    go_wp2_with fail
    refine (HR'.out _ HQ.out.1).mono ?_
    rintro e w5 ⟨rfl, hP5⟩
    have H5 := Lib.hid (HQ.out.trans hP5)
    clear hP5 HQ HR' HF H HR1 c0 c1 f0 f1
    go_wp2_with fail
    go_loopw [6, 7] (fun x i wr => QRel s w5 x i wr) (fun _ i _ => s.size - (intOf i).toNat)
    case atStart => exact ⟨0, Nat.zero_le _, rfl, rfl, rfl⟩
    case round =>
      obtain ⟨k, hk, rfl, rfl, rfl⟩ := hrel
      by_cases hlt : k < s.size
      · have hsn : beL (s.data.toList.take (k + 1)) = 256 * beL (s.data.toList.take k) + s[k].toNat := by rw [take_snoc' s k hlt, beL_snoc, getD_get s k hlt]
        have hm := beL_take_le s.data.toList (k + 1)
        rw [hsn] at hm
        have HSN := Lib.hid hsn
        have hc8 := s[k].toNat_lt
        clear hsn
        generalize beL (s.data.toList.take k) = X at hm HSN ⊢
        go_wp2_with fail
        refine ⟨⟨k + 1, hlt, rfl, ?_, rfl⟩, ?_⟩
        · rw [or_i64 X _ hc8 (by omega), HSN.out]
        · show s.size - ((k : Int) + 1).toNat < s.size - (k : Int).toNat
          omega
      · obtain rfl : k = s.size := by omega
        have hall : s.data.toList.take s.size = s.data.toList := List.take_of_length_le (by rw [Array.length_toList]; exact Nat.le_refl _)
        rw [hall]
        clear hall
        go_wp2_with fail
        go_ret
        exact ⟨rfl, H5.out⟩

theorem rTxt_err0 {r : RS} (h : r.2 ≠ 0) (most : Int) : rTxt r most = (⟨#[]⟩, r) := by unfold rTxt; rw [if_pos h]
theorem rNum_err {r : RS} (h : r.2 ≠ 0) (n : Int) : rNum r n = (0, r) := by unfold rNum; rw [rRaw_err h]; rfl
theorem rTxt_err1 {r : RS} (h : r.2 = 0) (h1 : (rNum r 2).2.2 ≠ 0) (most : Int) (hm : 0 ≤ most) : rTxt r most = (⟨#[]⟩, (rNum r 2).2) := by
  have hn : rNum r 2 = (0, (r.1, 2)) := by
    unfold rNum rRaw at h1 ⊢
    rw [if_neg (show ¬ r.2 ≠ 0 by omega), if_neg (by decide)] at h1 ⊢
    by_cases hs : (r.1.size : Int) < 2
    · rw [if_pos hs]; rfl
    · rw [if_neg hs] at h1
      exact absurd h h1
  have h2 : rTxt2 r most = (r.1, 2) := by
    unfold rTxt2
    rw [hn, if_neg (by show ¬ max most 0 < 0; omega)]
  unfold rTxt
  rw [if_neg (show ¬ r.2 ≠ 0 by omega), h2, hn]
  rw [rRaw_err (show (2 : Int) ≠ 0 by decide)]
  rfl

set_option maxRecDepth 100000 in
set_option maxHeartbeats 1000000 in
theorem qtxt_any (b : Nat) (r : RS) (most : Int) (w : World) (hm : 0 ≤ most ∧ most ≤ 9223372036854775807) (hs : r.1.size ≤ 9223372036854775807) (h : Rdr 141 w b r) :
    Calls Tryz.prog 57 #[.pointer (some ⟨b, 0, none⟩), .int .i64 most] w fun e w' => e = .returned (.string (rTxt r most).1) ∧ RdP 141 b (rTxt r most).2 w w' := by
  have h2 := qnum_any b r 2 w (by decide) hs h
  rw [qNum_small r (by decide)] at h2
  have H2 := Lib.hid h2
  obtain ⟨⟨c0, c1⟩, f0, f1⟩ := h.cells
  clear h h2
  by_cases he : (rNum r 2).2.2 ≠ 0
  · have hres : rTxt r most = (⟨#[]⟩, (rNum r 2).2) := by
      by_cases h0 : r.2 = 0
      · exact rTxt_err1 h0 he most hm.1
      · rw [rTxt_err0 h0, rNum_err h0]
    rw [hres]
    have hb : ((rNum r 2).2.2 == 0) = false := beq_eq_false_iff_ne.2 he
    clear he hres
    have H2' : Hid (Calls Tryz.prog 74 #[.pointer (some ⟨b, 0, none⟩), .int .i64 2] w fun e w' => e = .returned (.int .i64 (rNum r 2).1) ∧ RdP 141 b (rNum r 2).2 w w') := Lib.hid H2.out
    clear H2
    generalize (rNum r 2).1 = x at H2' ⊢
    generalize (rNum r 2).2 = r1 at hb H2' ⊢
    go_enter Tryz.func57, Tryz.ntmps57
    go_wp2_with fail
    refine H2'.out.mono ?_
    rintro e w2 ⟨rfl, hP⟩
    have HP := Lib.hid hP
    obtain ⟨⟨d0, d1⟩, -, -⟩ := hP.1.cells
    clear hP c0 c1 f0 f1 H2'
    go_wp2_with fail
    go_ret
    exact ⟨rfl, HP.out⟩
  · have he0 : r.2 = 0 := by
      refine Classical.byContradiction fun h0 => he ?_
      rw [rNum_err h0]
      exact h0
    unfold rTxt
    rw [if_neg (show ¬ r.2 ≠ 0 by omega)]
    have hb : ((rNum r 2).2.2 == 0) = true := beq_iff_eq.2 (by omega)
    clear he
    have hx := raw_fits r 2 (.inl (by decide))
    have hsz := rTxt2_size r most
    have hdef : rTxt2 r most = if max most 0 < (rNum r 2).1 then rFail (rNum r 2).2 4 else (rNum r 2).2 := rfl
    have hx0 : (rNum r 2).1 = beL (rRaw r ((2 : Nat) : Int)).1.data.toList := rfl
    have hx1 : 0 ≤ (rNum r 2).1 ∧ (rNum r 2).1 ≤ 9223372036854775807 := by rw [hx0]; omega
    rw [Int.max_eq_left hm.1] at hdef
    clear hx hx0
    have H2' : Hid (Calls Tryz.prog 74 #[.pointer (some ⟨b, 0, none⟩), .int .i64 2] w fun e w' => e = .returned (.int .i64 (rNum r 2).1) ∧ RdP 141 b (rNum r 2).2 w w') := Lib.hid H2.out
    clear H2
    generalize (rNum r 2).1 = x at hdef hx1 H2' ⊢
    generalize (rNum r 2).2 = r1 at hdef hb H2' ⊢
    generalize rTxt2 r most = r2 at hdef hsz ⊢
    have HR : ∀ W, Rdr 141 W b r2 → Calls Tryz.prog 76 #[.pointer (some ⟨b, 0, none⟩), .int .i64 x] W fun e w' => e = .returned (.string (rRaw r2 x).1) ∧ RdP 141 b (rRaw r2 x).2 W w' := fun W hW => qraw_any b r2 x W (by omega) hW
    generalize (rRaw r2 x).1 = s3 at HR ⊢
    generalize (rRaw r2 x).2 = r3 at HR ⊢
    have HR' := Lib.hid HR
    have HD := Lib.hid hdef
    clear HR hdef he0
    have hF1 : r3.2 ≠ 0 → (if r3.2 ≠ 0 then (r.1, r3.2) else r3) = (r.1, r3.2) := fun h => if_pos h
    have hF2 : ¬ r3.2 ≠ 0 → (if r3.2 ≠ 0 then (r.1, r3.2) else r3) = r3 := fun h => if_neg h
    generalize (if r3.2 ≠ 0 then (r.1, r3.2) else r3) = r4 at hF1 hF2 ⊢
    have HF1 := Lib.hid hF1
    have HF2 := Lib.hid hF2
    clear hF1 hF2
    go_enter Tryz.func57, Tryz.ntmps57
    go_wp2_with fail
    refine H2'.out.mono ?_
    rintro e w2 ⟨rfl, hP⟩
    have HP := Lib.hid hP
    obtain ⟨⟨d0, d1⟩, -, -⟩ := hP.1.cells
    clear hP c0 c1 f0 f1 H2'
    by_cases hbig : most < x
    case' pos =>
      have h2 : r2 = rFail r1 4 := by rw [HD.out, if_pos hbig]
      go_wp2_with fail
      refine (qfail_any b r1 4 w2 HP.out.1).mono ?_
      rintro e w3 ⟨rfl, hP3⟩
      have HQ : Hid (RdP 141 b r2 w w3) := Lib.hid (by rw [h2]; exact HP.out.trans hP3)
      clear h2 hP3
    case' neg =>
      have h2 : r2 = r1 := by rw [HD.out, if_neg hbig]
      have HQ : Hid (RdP 141 b r2 w w2) := Lib.hid (by rw [h2]; exact HP.out)
      clear h2
    all_goals
      clear HP
      go_wp2_with fail
      refine (HR'.out _ HQ.out.1).mono ?_
      rintro e w5 ⟨rfl, hP5⟩
      have H5 := Lib.hid (HQ.out.trans hP5)
      clear d0 d1 hb
      obtain ⟨⟨c0, c1⟩, f0, f1⟩ := hP5.1.cells
      clear hP5 HQ
      by_cases hr3 : r3.2 ≠ 0
      · have hb3 : (r3.2 == 0) = false := beq_eq_false_iff_ne.2 hr3
        have hr4 := HF1.out hr3
        have HR4 := Lib.hid hr4
        clear hr3 hr4
        go_wp2_with fail
        go_ret
        refine ⟨rfl, ?_⟩
        rw [HR4.out]
        exact H5.out.trans (H5.out.1.setS r.1)
      · have hb3 : (r3.2 == 0) = true := beq_iff_eq.2 (by omega)
        have hr4 := HF2.out hr3
        have HR4 := Lib.hid hr4
        clear hr3 hr4
        go_wp2_with fail
        go_ret
        refine ⟨rfl, ?_⟩
        rw [HR4.out]
        exact H5.out

set_option maxRecDepth 100000 in
theorem qend_any (b : Nat) (r : RS) (w : World) (hs : r.1.size ≤ 9223372036854775807) (h : Rdr 141 w b r) :
    Calls Tryz.prog 59 #[.pointer (some ⟨b, 0, none⟩)] w fun e w' => e = .returned (.int .i64 (rEnd r).2) ∧ RdP 141 b (rEnd r) w w' := by
  have HF := Lib.hid (qfail_any b r 3 w h)
  have H := Lib.hid h
  obtain ⟨⟨c0, c1⟩, -, -⟩ := h.cells
  clear h
  unfold rEnd
  by_cases h0 : 0 < r.1.size
  · rw [if_pos h0]
    have h0' : (0 : Int) < (r.1.size : Int) := by omega
    go_enter Tryz.func59, Tryz.ntmps59
    go_wp2_with fail
    refine HF.out.mono ?_
    rintro e w1 ⟨rfl, hP⟩
    have HP := Lib.hid hP
    clear c0 c1
    obtain ⟨⟨c0, c1⟩, -, -⟩ := hP.1.cells
    clear hP
    go_wp2_with fail
    go_ret
    exact ⟨rfl, HP.out⟩
  · rw [if_neg h0]
    have h0' : ¬ (0 : Int) < (r.1.size : Int) := by omega
    go_enter Tryz.func59, Tryz.ntmps59
    go_wp2_with fail
    go_ret
    exact ⟨rfl, H.out.refl⟩
theorem qread_any (s : ByteArray) (w : World) :
    Calls Tryz.prog 56 #[.string s] w fun e w' => e = .returned (.pointer (some ⟨w.heap.size, 0, none⟩)) ∧ w' = w.alloc (.cells #[.string s, .int .i64 0] 141) := by
  go_enter Tryz.func56, Tryz.ntmps56
  go_wp2_with fail
  go_ret
  exact ⟨rfl, rfl⟩
end Go.Proofs.YtmejjphliaiamaaGreatDoor
