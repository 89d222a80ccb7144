import Derived.Test.YtmejjphliaiamaaGreatDoorPkA
import Derived.Lib.ConvBytes
import Derived.Lib.AtoiErrMem
set_option linter.unusedVariables false
namespace Go.Proofs.YtmejjphliaiamaaGreatDoor
open Go Go.RowKit Go.Lib

/-! ### the program's reader -/
def RdP (T : TypeId) (b : Nat) (r : RS) (w w' : World) : Prop := Rdr T w' b r ∧ Kp (fun k => k = b) w w'
theorem Rdr.refl {T : TypeId} {b : Nat} {r : RS} {w : World} (h : Rdr T w b r) : RdP T b r w w := ⟨h, Kp.refl _ _⟩
theorem RdP.trans {T : TypeId} {b : Nat} {r r' : RS} {w w1 w2 : World} (h : RdP T b r w w1) (k : RdP T b r' w1 w2) : RdP T b r' w w2 := ⟨k.1, h.2.trans k.2⟩
theorem Rdr.setE {T : TypeId} {b : Nat} {r : RS} {w : World} (h : Rdr T w b r) (e : Int) : RdP T b (r.1, e) w (w.setCell ⟨b, 1, none⟩ (.int .i64 e)) :=
  ⟨blk_set h _, Kp.setCell (S := fun k => k = b) (Kp.refl _ _) (p := ⟨b, 1, none⟩) (.inl rfl) _⟩
theorem Rdr.setS {T : TypeId} {b : Nat} {r : RS} {w : World} (h : Rdr T w b r) (s : ByteArray) : RdP T b (s, r.2) w (w.setCell ⟨b, 0, none⟩ (.string s)) :=
  ⟨blk_set h _, Kp.setCell (S := fun k => k = b) (Kp.refl _ _) (p := ⟨b, 0, none⟩) (.inl rfl) _⟩

set_option maxRecDepth 100000 in
theorem err_any (b : Nat) (r : RS) (w : World) (h : Rdr 136 w b r) :
    Calls Tryz.prog 112 #[.pointer (some ⟨b, 0, none⟩)] w fun e w' => e = .returned (.int .i64 r.2) ∧ w = w' := by
  obtain ⟨⟨c0, c1⟩, -, -⟩ := h.cells
  clear h
  go_enter Tryz.func112, Tryz.ntmps112
  go_wp2_with fail
  go_ret
  exact ⟨rfl, rfl⟩
theorem left_any (b : Nat) (r : RS) (w : World) (h : Rdr 136 w b r) :
    Calls Tryz.prog 110 #[.pointer (some ⟨b, 0, none⟩)] w fun e w' => e = .returned (.int .i64 r.1.size) ∧ w = w' := by
  obtain ⟨⟨c0, c1⟩, -, -⟩ := h.cells
  clear h
  go_enter Tryz.func110, Tryz.ntmps110
  go_wp2_with fail
  go_ret
  exact ⟨rfl, rfl⟩
theorem fail_any (b : Nat) (r : RS) (n : Int) (w : World) (h : Rdr 136 w b r) :
    Calls Tryz.prog 111 #[.pointer (some ⟨b, 0, none⟩), .int .i64 n] w fun e w' => e = .returned (.tuple #[]) ∧ RdP 136 b (rFail r n) w w' := by
  have HE := Lib.hid (err_any b r w h)
  have H := Lib.hid h
  obtain ⟨⟨c0, c1⟩, f0, f1⟩ := h.cells
  clear h
  unfold rFail
  by_cases he : r.2 = 0
  · have hb : (r.2 == 0) = true := beq_iff_eq.2 he
    rw [if_pos he]
    clear he
    go_enter Tryz.func111, Tryz.ntmps111
    go_wp2_with fail
    refine HE.out.mono ?_
    rintro e w1 ⟨rfl, rfl⟩
    go_wp2_with fail
    go_end0
    exact ⟨rfl, H.out.setE n⟩
  · have hb : (r.2 == 0) = false := beq_eq_false_iff_ne.2 he
    rw [if_neg he]
    clear he
    go_enter Tryz.func111, Tryz.ntmps111
    go_wp2_with fail
    refine HE.out.mono ?_
    rintro e w1 ⟨rfl, rfl⟩
    go_wp2_with fail
    go_end0
    exact ⟨rfl, H.out.refl⟩

set_option maxRecDepth 100000 in
set_option maxHeartbeats 1000000 in
theorem raw_any (b : Nat) (r : RS) (n : Int) (w : World) (hs : r.1.size ≤ 9223372036854775807) (h : Rdr 136 w b r) :
    Calls Tryz.prog 116 #[.pointer (some ⟨b, 0, none⟩), .int .i64 n] w fun e w' => e = .returned (.string (rRaw r n).1) ∧ RdP 136 b (rRaw r n).2 w w' := by
  have HE := Lib.hid (err_any b r w h)
  have H := Lib.hid h
  obtain ⟨⟨c0, c1⟩, f0, f1⟩ := h.cells
  clear h
  unfold rRaw
  by_cases he : r.2 ≠ 0
  · have hb : (r.2 == 0) = false := beq_eq_false_iff_ne.2 he
    rw [if_pos he]
    clear he
    go_enter Tryz.func116, Tryz.ntmps116
    go_wp2_with fail
    refine HE.out.mono ?_
    rintro e w1 ⟨rfl, rfl⟩
    go_wp2_with fail
    go_ret
    exact ⟨rfl, H.out.refl⟩
  · have he0 : r.2 = 0 := by omega
    have hb : (r.2 == 0) = true := beq_iff_eq.2 he0
    rw [if_neg he]
    have HE0 := Lib.hid he0
    clear he he0
    by_cases hn : n < 0
    · rw [if_pos hn]
      go_enter Tryz.func116, Tryz.ntmps116
      go_wp2_with fail
      refine HE.out.mono ?_
      rintro e w1 ⟨rfl, rfl⟩
      go_wp2_with fail
      go_ret
      exact ⟨rfl, H.out.setE 1⟩
    · rw [if_neg hn]
      have hn0 : 0 ≤ n := by omega
      by_cases hl : (r.1.size : Int) < n
      · rw [if_pos hl]
        go_enter Tryz.func116, Tryz.ntmps116
        go_wp2_with fail
        refine HE.out.mono ?_
        rintro e w1 ⟨rfl, rfl⟩
        go_wp2_with fail
        go_ret
        exact ⟨rfl, H.out.setE 2⟩
      · rw [if_neg hl]
        have hl' : n ≤ (r.1.size : Int) := by omega
        go_enter Tryz.func116, Tryz.ntmps116
        go_wp2_with fail
        refine HE.out.mono ?_
        rintro e w1 ⟨rfl, rfl⟩
        go_wp2_with fail
        go_ret
        exact ⟨rfl, H.out.setS _⟩

theorem or_i64 (X C : Nat) (hC : C < 256) (hX : 256 * X + C < 9223372036854775808) : bits .or .i64 ((X : Int) * 256) (C : Int) = ((256 * X + C : Nat) : Int) := by
  show IntKind.i64.wrap ((BitVec.ofInt 64 ((X : Int) * 256) ||| BitVec.ofInt 64 (C : Int)).toNat : Int) = _
  have e1 : BitVec.ofInt 64 ((X : Int) * 256) = BitVec.ofNat 64 (X * 256) := by
    rw [show (X : Int) * 256 = ((X * 256 : Nat) : Int) by omega]
    exact BitVec.ofInt_natCast _ _
  have e2 : BitVec.ofInt 64 (C : Int) = BitVec.ofNat 64 C := BitVec.ofInt_natCast _ _
  rw [e1, e2, BitVec.toNat_or, BitVec.toNat_ofNat, BitVec.toNat_ofNat, Nat.mod_eq_of_lt (by omega), Nat.mod_eq_of_lt (by omega)]
  have e3 : X * 256 ||| C = 256 * X + C := by
    have h := Nat.shiftLeft_add_eq_or_of_lt (show C < 2 ^ 8 by omega) X
    rw [Nat.shiftLeft_eq] at h
    have h256 : (2 : Nat) ^ 8 = 256 := by decide
    rw [h256] at h
    omega
  rw [e3]
  exact IntWalk.i64_in _ (by omega)
def NumL (s : ByteArray) (w : World) (x i : Value) (wr : World) : Prop := ∃ k : Nat, k ≤ s.size ∧ i = .int .i64 k ∧ x = .int .i64 (beL (s.data.toList.take k)) ∧ w = wr

set_option maxRecDepth 100000 in
set_option maxHeartbeats 1000000 in
theorem rn_any (b : Nat) (r : RS) (n : Nat) (w : World) (hn : n ≤ 7 ∨ (n = 8 ∧ (topBad r.1 = true → r.2 ≠ 0))) (hs : r.1.size ≤ 9223372036854775807) (h : Rdr 136 w b r) :
    Calls Tryz.prog 109 #[.pointer (some ⟨b, 0, none⟩), .int .i64 n] w fun e w' => e = .returned (.int .i64 (rNum r n).1) ∧ RdP 136 b (rNum r n).2 w w' := by
  have HE := Lib.hid (raw_any b r n w hs h)
  have hfit := raw_fits r n hn
  have hle := (rRaw_size r n).1
  have hlen := rRaw_len r n
  have hres : (rNum r n).1 = beL (rRaw r n).1.data.toList := rfl
  have hres2 : (rNum r n).2 = (rRaw r n).2 := rfl
  rw [hres, hres2]
  clear h hres hres2
  generalize (rRaw r n).1 = s at hfit hle hlen HE ⊢
  generalize (rRaw r n).2 = r' at HE ⊢
  go_enter Tryz.func109, Tryz.ntmps109
  go_wp2_with fail
  refine HE.out.mono ?_
  rintro e w1 ⟨rfl, hP⟩
  have HP := Lib.hid hP
  clear hP HE
  go_wp2_with fail
  rw [Lib.run_convert_string_bytes w1 9 47 5 s Tryz.underlying9 Tryz.underlying47 Tryz.underlying5]
  simp only [Result.andThen]
  rw [Oper.upon_value]
  have hcell := fun j hj => Lib.bytesWorld_cell w1 5 s j hj
  have hbel := Lib.bytesWorld_below w1 5 s
  generalize Lib.bytesWorld w1 5 s = w2 at hcell hbel ⊢
  have HC := Lib.hid hcell
  have HF : Hid (RdP 136 b r' w w2) := Lib.hid ⟨blk_later HP.out.1 hbel, HP.out.2.below hbel⟩
  clear hcell hbel
  go_wp2_with fail
  go_loopw [5, 13] (fun x i wr => NumL s w2 x i wr) (fun _ i _ => s.size - (intOf i).toNat)
  case atStart => exact ⟨0, Nat.zero_le _, rfl, rfl, rfl⟩
  case round =>
    obtain ⟨k, hk, rfl, rfl, rfl⟩ := hrel
    by_cases hlt : k < s.size
    · have hsn : beL (s.data.toList.take (k + 1)) = 256 * beL (s.data.toList.take k) + (s.data.toList.getD k 0).toNat := by rw [take_snoc' s k hlt, beL_snoc]
      have hm := beL_take_le s.data.toList (k + 1)
      rw [hsn] at hm
      have HSN := Lib.hid hsn
      have hc := HC.out k hlt
      have hc8 := (s.data.toList.getD k 0).toNat_lt
      clear hsn
      generalize beL (s.data.toList.take k) = X at hm HSN ⊢
      generalize (s.data.toList.getD k 0).toNat = C at hm HSN hc hc8 ⊢
      go_wp2_with fail
      refine ⟨⟨k + 1, hlt, rfl, ?_, rfl⟩, ?_⟩
      · rw [or_i64 X C hc8 (by omega), HSN.out]
      · show s.size - ((k : Int) + 1).toNat < s.size - (k : Int).toNat
        omega
    · obtain rfl : k = s.size := by omega
      have hall : s.data.toList.take s.size = s.data.toList := List.take_of_length_le (by rw [Array.length_toList]; exact Nat.le_refl _)
      rw [hall]
      clear hall
      go_wp2_with fail
      go_ret
      exact ⟨rfl, HF.out⟩

theorem r1_any (b : Nat) (r : RS) (w : World) (hs : r.1.size ≤ 9223372036854775807) (h : Rdr 136 w b r) :
    Calls Tryz.prog 42 #[.pointer (some ⟨b, 0, none⟩)] w fun e w' => e = .returned (.int .i64 (rNum r 1).1) ∧ RdP 136 b (rNum r 1).2 w w' := by
  have HC := Lib.hid (rn_any b r 1 w (.inl (by decide)) hs h)
  clear h
  go_enter Tryz.func42, Tryz.ntmps42
  go_wp2_with fail
  refine HC.out.mono ?_
  rintro e w1 ⟨rfl, h1⟩
  have H1 := Lib.hid h1
  clear h1 HC
  go_wp2_with fail
  go_ret
  exact ⟨rfl, H1.out⟩

theorem r2_any (b : Nat) (r : RS) (w : World) (hs : r.1.size ≤ 9223372036854775807) (h : Rdr 136 w b r) :
    Calls Tryz.prog 43 #[.pointer (some ⟨b, 0, none⟩)] w fun e w' => e = .returned (.int .i64 (rNum r 2).1) ∧ RdP 136 b (rNum r 2).2 w w' := by
  have HC := Lib.hid (rn_any b r 2 w (.inl (by decide)) hs h)
  clear h
  go_enter Tryz.func43, Tryz.ntmps43
  go_wp2_with fail
  refine HC.out.mono ?_
  rintro e w1 ⟨rfl, h1⟩
  have H1 := Lib.hid h1
  clear h1 HC
  go_wp2_with fail
  go_ret
  exact ⟨rfl, H1.out⟩

theorem rTxt2_size (r : RS) (most : Int) : (rTxt2 r most).1.size ≤ r.1.size := by
  unfold rTxt2 rNum rFail
  split
  · split
    · exact (rRaw_size r 2).2
    · exact (rRaw_size r 2).2
  · exact (rRaw_size r 2).2
set_option maxRecDepth 100000 in
set_option maxHeartbeats 1000000 in
theorem rtxt_any (b : Nat) (r : RS) (most : Int) (w : World) (hm : 0 ≤ most ∧ most ≤ 9223372036854775807) (hs : r.1.size ≤ 9223372036854775807) (h : Rdr 136 w b r) :
    Calls Tryz.prog 54 #[.pointer (some ⟨b, 0, none⟩), .int .i64 most] w fun e w' => e = .returned (.string (rTxt r most).1) ∧ RdP 136 b (rTxt r most).2 w w' := by
  have HE := Lib.hid (err_any b r w h)
  have H := Lib.hid h
  have H2 := Lib.hid (r2_any b r w hs h)
  obtain ⟨⟨c0, c1⟩, f0, f1⟩ := h.cells
  clear h
  unfold rTxt
  by_cases he : r.2 ≠ 0
  · have hb : (r.2 == 0) = false := beq_eq_false_iff_ne.2 he
    rw [if_pos he]
    clear he
    go_enter Tryz.func54, Tryz.ntmps54
    go_wp2_with fail
    refine HE.out.mono ?_
    rintro e w1 ⟨rfl, rfl⟩
    go_wp2_with fail
    go_ret
    exact ⟨rfl, H.out.refl⟩
  · have hb : (r.2 == 0) = true := beq_iff_eq.2 (by omega)
    rw [if_neg he]
    clear he
    have hx := raw_fits r 2 (.inl (by decide))
    have hsz := rTxt2_size r most
    have hdef : rTxt2 r most = if max most 0 < (rNum r 2).1 then rFail (rNum r 2).2 4 else (rNum r 2).2 := rfl
    have hx0 : (rNum r 2).1 = beL (rRaw r ((2 : Nat) : Int)).1.data.toList := rfl
    have hx1 : 0 ≤ (rNum r 2).1 ∧ (rNum r 2).1 ≤ 9223372036854775807 := by rw [hx0]; omega
    rw [Int.max_eq_left hm.1] at hdef
    clear hx hx0
    generalize (rNum r 2).1 = x at hdef hx1 H2 ⊢
    generalize (rNum r 2).2 = r1 at hdef H2 ⊢
    generalize rTxt2 r most = r2 at hdef hsz ⊢
    have HR : ∀ W, Rdr 136 W b r2 → Calls Tryz.prog 116 #[.pointer (some ⟨b, 0, none⟩), .int .i64 x] W fun e w' => e = .returned (.string (rRaw r2 x).1) ∧ RdP 136 b (rRaw r2 x).2 W w' := fun W hW => raw_any b r2 x W (by omega) hW
    generalize (rRaw r2 x).1 = s3 at HR ⊢
    generalize (rRaw r2 x).2 = r3 at HR ⊢
    have HR' := Lib.hid HR
    have HD := Lib.hid hdef
    clear HR hdef
    have hF1 : r3.2 ≠ 0 → (if r3.2 ≠ 0 then (r.1, r3.2) else r3) = (r.1, r3.2) := fun h => if_pos h
    have hF2 : ¬ r3.2 ≠ 0 → (if r3.2 ≠ 0 then (r.1, r3.2) else r3) = r3 := fun h => if_neg h
    generalize (if r3.2 ≠ 0 then (r.1, r3.2) else r3) = r4 at hF1 hF2 ⊢
    have HF1 := Lib.hid hF1
    have HF2 := Lib.hid hF2
    clear hF1 hF2
    go_enter Tryz.func54, Tryz.ntmps54
    go_wp2_with fail
    refine HE.out.mono ?_
    rintro e w1 ⟨rfl, rfl⟩
    go_wp2_with fail
    refine H2.out.mono ?_
    rintro e w2 ⟨rfl, hP⟩
    have HP := Lib.hid hP
    clear hP c0 c1 f0 f1 HE H2
    by_cases hbig : most < x
    case' pos =>
      have h2 : r2 = rFail r1 4 := by rw [HD.out, if_pos hbig]
      go_wp2_with fail
      refine (fail_any b r1 4 w2 HP.out.1).mono ?_
      rintro e w3 ⟨rfl, hP3⟩
      have HQ : Hid (RdP 136 b r2 w w3) := Lib.hid (by rw [h2]; exact HP.out.trans hP3)
      clear h2 hP3
    case' neg =>
      have h2 : r2 = r1 := by rw [HD.out, if_neg hbig]
      have HQ : Hid (RdP 136 b r2 w w2) := Lib.hid (by rw [h2]; exact HP.out)
      clear h2
    all_goals
      clear HP
      go_wp2_with fail
      refine (HR'.out _ HQ.out.1).mono ?_
      rintro e w5 ⟨rfl, hP5⟩
      have H5 := Lib.hid (HQ.out.trans hP5)
      obtain ⟨⟨c0, c1⟩, f0, f1⟩ := hP5.1.cells
      clear hP5 HQ
      by_cases hr3 : r3.2 ≠ 0
      · have hb3 : (r3.2 == 0) = false := beq_eq_false_iff_ne.2 hr3
        have hr4 := HF1.out hr3
        have HR4 := Lib.hid hr4
        clear hr3 hr4
        go_wp2_with fail
        go_ret
        refine ⟨rfl, ?_⟩
        rw [HR4.out]
        exact H5.out.trans (H5.out.1.setS r.1)
      · have hb3 : (r3.2 == 0) = true := beq_iff_eq.2 (by omega)
        have hr4 := HF2.out hr3
        have HR4 := Lib.hid hr4
        clear hr3 hr4
        go_wp2_with fail
        go_ret
        refine ⟨rfl, ?_⟩
        rw [HR4.out]
        exact H5.out

set_option maxRecDepth 100000 in
theorem rend_any (b : Nat) (r : RS) (w : World) (hs : r.1.size ≤ 9223372036854775807) (h : Rdr 136 w b r) :
    Calls Tryz.prog 45 #[.pointer (some ⟨b, 0, none⟩)] w fun e w' => e = .returned (.int .i64 (rEnd r).2) ∧ RdP 136 b (rEnd r) w w' := by
  have HL := Lib.hid (left_any b r w h)
  have HF := Lib.hid (fail_any b r 3 w h)
  have HE := Lib.hid (err_any b r w h)
  have H := Lib.hid h
  clear h
  unfold rEnd
  by_cases h0 : 0 < r.1.size
  · rw [if_pos h0]
    have h0' : (0 : Int) < (r.1.size : Int) := by omega
    go_enter Tryz.func45, Tryz.ntmps45
    go_wp2_with fail
    refine HL.out.mono ?_
    rintro e w1 ⟨rfl, rfl⟩
    go_wp2_with fail
    refine HF.out.mono ?_
    rintro e w1 ⟨rfl, hP⟩
    have HP := Lib.hid hP
    clear hP
    go_wp2_with fail
    refine (err_any b _ w1 HP.out.1).mono ?_
    rintro e w2 ⟨rfl, rfl⟩
    go_wp2_with fail
    go_ret
    exact ⟨rfl, HP.out⟩
  · rw [if_neg h0]
    have h0' : ¬ (0 : Int) < (r.1.size : Int) := by omega
    go_enter Tryz.func45, Tryz.ntmps45
    go_wp2_with fail
    refine HL.out.mono ?_
    rintro e w1 ⟨rfl, rfl⟩
    go_wp2_with fail
    refine HE.out.mono ?_
    rintro e w2 ⟨rfl, rfl⟩
    go_wp2_with fail
    go_ret
    exact ⟨rfl, H.out.refl⟩
theorem read_any (s : ByteArray) (w : World) :
    Calls Tryz.prog 41 #[.string s] w fun e w' => e = .returned (.pointer (some ⟨w.heap.size, 0, none⟩)) ∧ w' = w.alloc (.cells #[.string s, .int .i64 0] 136) := by
  go_enter Tryz.func41, Tryz.ntmps41
  go_wp2_with fail
  go_ret
  exact ⟨rfl, rfl⟩
theorem rdr_new (T : TypeId) (w : World) (s : ByteArray) : Rdr T (w.alloc (.cells #[.string s, .int .i64 0] T)) w.heap.size (s, 0) := blk_new _ _
end Go.Proofs.YtmejjphliaiamaaGreatDoor
