import Derived.Test.YtmejjphliaiamaaGreatDoorMeL
import Derived.Test.YtmejjphliaiamaaGreatDoorNoB
import Derived.Laws.Cover1
set_option linter.unusedVariables false
set_option linter.unusedSimpArgs false
namespace Go.Proofs.YtmejjphliaiamaaGreatDoor
open Go Go.RowKit Go.Lib

/-! ### a snapshot's document -/
theorem enter_sg : Ent 100 := fun args w => by kernel_rfl
theorem enter_sl : Ent 101 := fun args w => by kernel_rfl
theorem enter_st : Ent 102 := fun args w => by kernel_rfl
theorem enter_sz : Ent 103 := fun args w => by kernel_rfl
def d3Z (d : DV) : DV := { d with of := 0, hash := ⟨#[]⟩, pO := ⟨#[]⟩, pS := 0, pR := ⟨#[]⟩ }
set_option maxRecDepth 100000 in
theorem zero3_any (b : Nat) (d : DV) (w : World) (h : DocAt w b d) : Calls Tryz.prog 103 #[.pointer (some ⟨b, 0, none⟩)] w fun e w' => e = .returned (.tuple #[]) ∧ DocK b (d3Z d) w w' := by
  have c19 := cell_of_blk h 19 (v := .int .i64 d.of) rfl
  have c20 := cell_of_blk h 20 (v := .string d.hash) rfl
  have c16 := cell_of_blk h 16 (v := .string d.pO) rfl
  have c17 := cell_of_blk h 17 (v := .int .i64 d.pS) rfl
  have c18 := cell_of_blk h 18 (v := .string d.pR) rfl
  have f19 := free_of_blk h 19
  have f20 := free_of_blk h 20
  have f16 := free_of_blk h 16
  have f17 := free_of_blk h 17
  have f18 := free_of_blk h 18
  have HD : Hid (DocK b (d3Z d) w (((((w.setCell ⟨b, 19, none⟩ (.int .i64 0)).setCell ⟨b, 20, none⟩ (.string ⟨#[]⟩)).setCell ⟨b, 16, none⟩ (.string ⟨#[]⟩)).setCell ⟨b, 17, none⟩ (.int .i64 0)).setCell ⟨b, 18, none⟩ (.string ⟨#[]⟩))) :=
    Lib.hid ⟨blk_set (blk_set (blk_set (blk_set (blk_set h _) _) _) _) _, (((((Kp.refl (fun k => k = b) w).setCell (p := ⟨b, 19, none⟩) (.inl rfl) _).setCell (p := ⟨b, 20, none⟩) (.inl rfl) _).setCell (p := ⟨b, 16, none⟩) (.inl rfl) _).setCell (p := ⟨b, 17, none⟩) (.inl rfl) _).setCell (p := ⟨b, 18, none⟩) (.inl rfl) _⟩
  clear h
  go_enter Tryz.func103, Tryz.ntmps103
  go_wp2_with fail
  go_end0
  exact ⟨rfl, HD.out⟩
def lay3 (d : DV) (q : WS) : WS := pHash (wNum (pText (lay4 d q) d.pO) d.pS 2) d.pR
theorem lay3_sizes (d : DV) (q : WS) : (lay4 d q).1.size ≤ q.1.size + d.hash.size + 2 ∧ (pText (lay4 d q) d.pO).1.size ≤ q.1.size + d.hash.size + d.pO.size + 4 ∧ (wNum (pText (lay4 d q) d.pO) d.pS 2).1.size ≤ q.1.size + d.hash.size + d.pO.size + 6 := by
  have h1 := wNum_size q d.of 2
  have h2 : (lay4 d q).1.size = (wNum q d.of 2).1.size + d.hash.size := by unfold lay4 pHash; exact ByteArray.size_append
  have h3 : (pText (lay4 d q) d.pO).1.size = (wNum (lay4 d q) d.pO.size 2).1.size + d.pO.size := by unfold pText; exact ByteArray.size_append
  have h4 := wNum_size (lay4 d q) d.pO.size 2
  have h5 := wNum_size (pText (lay4 d q) d.pO) d.pS 2
  omega
set_option maxRecDepth 100000 in
set_option maxHeartbeats 2000000 in
theorem laysn_any (d : DV) (w0 : World) (ho : I64 d.of) (hh : d.hash.size ≤ 1000000000) (hp : I64 d.pS) (hO : d.pO.size ≤ 1000000000) (hR : d.pR.size ≤ 1000000000) : LayC 101 d (lay3 d) w0 := by
  intro W wb q db Lp hm hq hG
  obtain ⟨z1, z2, z3⟩ := lay3_sizes d q
  have HL := Lib.hid (layts_any d w0 ho hh W wb q db Lp hm hq hG)
  have HM := Lib.hid hm
  have HP := Lib.hid hp
  have e3 : lay3 d q = pHash (wNum (pText (lay4 d q) d.pO) d.pS 2) d.pR := rfl
  rw [e3]
  have e4 : pHash (wNum q d.of 2) d.hash = lay4 d q := rfl
  dsimp only at HL
  rw [e4] at HL
  clear hG hm ho hp e3 e4
  generalize lay4 d q = q1 at HL z1 z2 z3 ⊢
  obtain ⟨R, hRR⟩ : ∃ R, R = pHash (wNum (pText q1 d.pO) d.pS 2) d.pR := ⟨_, rfl⟩
  rw [← hRR]
  have HRR := Lib.hid hRR
  clear hRR
  go_enter Tryz.func101, Tryz.ntmps101
  go_wp2_with fail
  refine HL.out.mono ?_
  rintro e w1 ⟨rfl, hg1⟩
  have HG1 := Lib.hid hg1
  have hd1 : DocAt w1 db d := (hg1.par _ HM.out).1
  obtain ⟨v1, hv1⟩ := hg1.ex
  have HV1 := Lib.hid hv1
  have c16 := cell_of_blk hd1 16 (v := .string d.pO) rfl
  clear hg1 hd1 hv1 HL
  go_wp2_with fail
  refine (ptext_any _ wb v1 q1 d.pO w1 (by omega) HV1.out).mono ?_
  rintro e w2 ⟨rfl, hk⟩
  have hg2 := HG1.out.step HV1.out hk
  have HG2 := Lib.hid hg2
  have hd2 : DocAt w2 db d := (hg2.par _ HM.out).1
  obtain ⟨v2, hv2⟩ := hg2.ex
  have HV2 := Lib.hid hv2
  have c17 := cell_of_blk hd2 17 (v := .int .i64 d.pS) rfl
  clear hg2 hd2 hv2 hk HG1 HV1 c16
  generalize pText q1 d.pO = q2 at z2 z3 HG2 HV2 HRR
  go_wp2_with fail
  refine (pw2_any _ wb v2 q2 d.pS w2 HP.out (by omega) HV2.out).mono ?_
  rintro e w3 ⟨rfl, hk⟩
  have hg3 := HG2.out.step HV2.out hk
  have HG3 := Lib.hid hg3
  have hd3 : DocAt w3 db d := (hg3.par _ HM.out).1
  obtain ⟨v3, hv3⟩ := hg3.ex
  have HV3 := Lib.hid hv3
  have c18 := cell_of_blk hd3 18 (v := .string d.pR) rfl
  clear hg3 hd3 hv3 hk HG2 HV2 c17
  generalize wNum q2 d.pS 2 = q3 at z3 HG3 HV3 HRR
  go_wp2_with fail
  refine (phash_any _ wb v3 q3 d.pR w3 (by omega) HV3.out).mono ?_
  rintro e w4 ⟨rfl, hk⟩
  have HG4 := Lib.hid (HG3.out.step HV3.out hk)
  clear hk
  go_wp2_with fail
  go_end0
  exact ⟨rfl, HRR.out ▸ HG4.out⟩
def snGood (d : DV) : Bool := decide ((cpV d.pO d.pS d.pR).2 = 0) && tsGood d.of d.hash
set_option maxRecDepth 100000 in
theorem goodsn_any (b : Nat) (d : DV) (w : World) (h : DocAt w b d) (ho : d.pO.size ≤ 9223372036854775807) (hr : d.pR.size ≤ 9223372036854775807) (hV : VarsP w) : Calls Tryz.prog 100 #[.pointer (some ⟨b, 0, none⟩)] w fun e w' => e = .returned (.bool (snGood d)) ∧ Below w.heap.size w w' := by
  have HC := text_anyP d.pO d.pS d.pR w ho hr hV
  have HD := Lib.hid h
  have c16 := cell_of_blk h 16 (v := .string d.pO) rfl
  have c17 := cell_of_blk h 17 (v := .int .i64 d.pS) rfl
  have c18 := cell_of_blk h 18 (v := .string d.pR) rfl
  obtain ⟨R, hR⟩ : ∃ R, R = snGood d := ⟨_, rfl⟩
  rw [← hR]
  unfold snGood at hR
  unfold cpVal at HC
  generalize cpV d.pO d.pS d.pR = q at HC hR
  have HCs := Lib.hid HC
  have HR := Lib.hid hR
  clear HC h hR
  by_cases h0 : q.2 = 0
  · have b1 : (q.2 == 0) = true := beq_iff_eq.2 h0
    have HR2 : Hid (R = tsGood d.of d.hash) := Lib.hid (by rw [HR.out, decide_eq_true h0]; rfl)
    clear h0
    go_enter Tryz.func100, Tryz.ntmps100
    go_wp2_with fail
    refine HCs.out.mono ?_
    rintro e w1 ⟨rfl, hb⟩
    have HB := Lib.hid hb
    have HD1 := Lib.hid (HD.out.later hb)
    clear hb c16 c17 c18
    go_wp2_with fail
    refine (goodts_any b d w1 HD1.out).mono ?_
    rintro e w2 ⟨rfl, rfl⟩
    go_wp2_with fail
    go_ret
    rw [HR2.out]
    exact ⟨rfl, HB.out⟩
  · have b1 : (q.2 == 0) = false := beq_eq_false_iff_ne.2 h0
    have HR2 : Hid (R = false) := Lib.hid (by rw [HR.out, decide_eq_false h0]; rfl)
    clear h0
    go_enter Tryz.func100, Tryz.ntmps100
    go_wp2_with fail
    refine HCs.out.mono ?_
    rintro e w1 ⟨rfl, hb⟩
    have HB := Lib.hid hb
    clear hb c16 c17 c18
    go_wp2_with fail
    go_ret
    rw [HR2.out]
    exact ⟨rfl, HB.out⟩
def sn1 (r : RS) : ByteArray × RS := rTxt (ts2 r).2 64
def sn2 (r : RS) : Int × RS := rNum (sn1 r).2 2
def sn3 (r : RS) : ByteArray × RS := rRaw (sn2 r).2 32
theorem rTxt_sz1 (r : RS) (most : Int) : (rTxt r most).2.1.size ≤ r.1.size := rTxt_sz r most
theorem sn_sizes (r : RS) : (ts2 r).2.1.size ≤ r.1.size ∧ (sn1 r).2.1.size ≤ r.1.size ∧ (sn2 r).2.1.size ≤ r.1.size ∧ (sn3 r).2.1.size ≤ r.1.size := by
  have h1 : (ts1 r).2.1.size ≤ r.1.size := (rRaw_size r 2).2
  have h2 : (ts2 r).2.1.size ≤ (ts1 r).2.1.size := (rRaw_size _ 32).2
  have h3 : (sn1 r).2.1.size ≤ (ts2 r).2.1.size := rTxt_sz _ 64
  have h4 : (sn2 r).2.1.size ≤ (sn1 r).2.1.size := (rRaw_size _ 2).2
  have h5 : (sn3 r).2.1.size ≤ (sn2 r).2.1.size := (rRaw_size _ 32).2
  omega
def dsn (d0 : DV) (r : RS) : DV := { d0 with of := (ts1 r).1, hash := (ts2 r).1, pO := (sn1 r).1, pS := (sn2 r).1, pR := (sn3 r).1 }
theorem tk_set {W wr : World} {db rb : Nat} (k : Kp (fun k => k = db ∨ k = rb) W wr) (i : Nat) (v : Value) : Kp (fun k => k = db ∨ k = rb) W (wr.setCell ⟨db, i, none⟩ v) := k.setCell (p := ⟨db, i, none⟩) (.inl (.inl rfl)) _
set_option maxRecDepth 100000 in
set_option maxHeartbeats 2000000 in
theorem takesn_any (d0 : DV) (r3 : RS) (w : World) (hs : r3.1.size ≤ 1000000000) : TakeC 102 d0 r3 (sn3 r3).2 (fun d _ => d = dsn d0 r3) w := by
  intro W db rb hB hd hr h1 h2
  obtain ⟨z1, z2, z3, z4⟩ := sn_sizes r3
  have HT := Lib.hid (taketst_any d0 r3 w hs W db rb hB hd hr h1 h2)
  have e1 : rTxt (ts2 r3).2 64 = sn1 r3 := rfl
  have e2 : rNum (sn1 r3).2 2 = sn2 r3 := rfl
  have e3 : rRaw (sn2 r3).2 32 = sn3 r3 := rfl
  have ed : dsn d0 r3 = { d0 with of := (ts1 r3).1, hash := (ts2 r3).1, pO := (sn1 r3).1, pS := (sn2 r3).1, pR := (sn3 r3).1 } := rfl
  rw [ed]
  have hne : ¬ db = rb := by omega
  clear hB hd hr ed
  generalize sn3 r3 = D at *
  generalize sn2 r3 = C at *
  generalize sn1 r3 = B at *
  generalize ts2 r3 = A at *
  generalize ts1 r3 = A1 at *
  have E1 := Lib.hid e1
  have E2 := Lib.hid e2
  have E3 := Lib.hid e3
  clear e1 e2 e3
  go_enter Tryz.func102, Tryz.ntmps102
  go_wp2_with fail
  refine HT.out.mono ?_
  rintro e w1 ⟨rfl, d', rfl, hd1, hr1, hk1⟩
  have c2 := rtxt_any rb A.2 64 w1 (by decide) (by omega) hr1
  rw [E1.out] at c2
  have HC2 := Lib.hid c2
  have HD1 := Lib.hid hd1
  have HK1 := Lib.hid hk1
  clear hd1 hr1 hk1 c2 HT
  go_wp2_with fail
  refine HC2.out.mono ?_
  rintro e w2 ⟨rfl, k2⟩
  have hd2 := blk_kp HD1.out k2.2 hne
  have hk2 : Kp (fun k => k = db ∨ k = rb) W w2 := HK1.out.trans (k2.2.mono (fun i hi => .inr hi))
  have c16 := cell_of_blk hd2 16 (v := .string d0.pO) rfl
  have c17 := cell_of_blk hd2 17 (v := .int .i64 d0.pS) rfl
  have c18 := cell_of_blk hd2 18 (v := .string d0.pR) rfl
  have f16 := free_of_blk hd2 16
  have f17 := free_of_blk hd2 17
  have f18 := free_of_blk hd2 18
  have hd3 : DocAt (((w2.setCell ⟨db, 16, none⟩ (.string B.1)).setCell ⟨db, 17, none⟩ (.int .i64 0)).setCell ⟨db, 18, none⟩ (.string ⟨#[]⟩)) db { d0 with of := A1.1, hash := A.1, pO := B.1, pS := 0, pR := ⟨#[]⟩ } := blk_set (blk_set (blk_set hd2 _) _) _
  have hk3 := tk_set (tk_set (tk_set hk2 16 (.string B.1)) 17 (.int .i64 0)) 18 (.string ⟨#[]⟩)
  have hr3 : Rdr 136 (((w2.setCell ⟨db, 16, none⟩ (.string B.1)).setCell ⟨db, 17, none⟩ (.int .i64 0)).setCell ⟨db, 18, none⟩ (.string ⟨#[]⟩)) rb B.2 := blk_set_other (blk_set_other (blk_set_other k2.1 (by omega) _) (by omega) _) (by omega) _
  have c3 := r2_any rb B.2 _ (by omega) hr3
  rw [E2.out] at c3
  have HC3 := Lib.hid c3
  have HD3 := Lib.hid hd3
  have HK3 := Lib.hid hk3
  clear hd2 hk2 k2 hd3 hk3 hr3 c3 HC2 HD1 HK1
  go_wp2_with fail
  clear c16 c17 c18 f16 f17 f18
  generalize ((w2.setCell ⟨db, 16, none⟩ (.string B.1)).setCell ⟨db, 17, none⟩ (.int .i64 0)).setCell ⟨db, 18, none⟩ (.string ⟨#[]⟩) = w3 at HC3 HD3 HK3 ⊢
  refine HC3.out.mono ?_
  rintro e w4 ⟨rfl, k4⟩
  have hd4 := blk_kp HD3.out k4.2 hne
  have hk4 : Kp (fun k => k = db ∨ k = rb) W w4 := HK3.out.trans (k4.2.mono (fun i hi => .inr hi))
  have c17 := cell_of_blk hd4 17 (v := .int .i64 0) rfl
  have f17 := free_of_blk hd4 17
  have hd5 : DocAt (w4.setCell ⟨db, 17, none⟩ (.int .i64 C.1)) db { d0 with of := A1.1, hash := A.1, pO := B.1, pS := C.1, pR := ⟨#[]⟩ } := blk_set hd4 _
  have hk5 := tk_set hk4 17 (.int .i64 C.1)
  have hr5 : Rdr 136 (w4.setCell ⟨db, 17, none⟩ (.int .i64 C.1)) rb C.2 := blk_set_other k4.1 (by omega) _
  have c5 := rhash_any rb C.2 _ (by omega) hr5
  rw [E3.out] at c5
  have HC5 := Lib.hid c5
  have HD5 := Lib.hid hd5
  have HK5 := Lib.hid hk5
  clear hd4 hk4 k4 hd5 hk5 hr5 c5 HC3 HD3 HK3
  go_wp2_with fail
  clear c17 f17
  generalize w4.setCell ⟨db, 17, none⟩ (.int .i64 C.1) = w5 at HC5 HD5 HK5 ⊢
  refine HC5.out.mono ?_
  rintro e w6 ⟨rfl, k6⟩
  have hd6 := blk_kp HD5.out k6.2 hne
  have hk6 : Kp (fun k => k = db ∨ k = rb) W w6 := HK5.out.trans (k6.2.mono (fun i hi => .inr hi))
  have c18 := cell_of_blk hd6 18 (v := .string ⟨#[]⟩) rfl
  have f18 := free_of_blk hd6 18
  have hd7 : DocAt (w6.setCell ⟨db, 18, none⟩ (.string D.1)) db { d0 with of := A1.1, hash := A.1, pO := B.1, pS := C.1, pR := D.1 } := blk_set hd6 _
  have hk7 := tk_set hk6 18 (.string D.1)
  have hr7 : Rdr 136 (w6.setCell ⟨db, 18, none⟩ (.string D.1)) rb D.2 := blk_set_other k6.1 (by omega) _
  have HD7 := Lib.hid hd7
  have HK7 := Lib.hid hk7
  have HR7 := Lib.hid hr7
  clear hd6 hk6 k6 hd7 hk7 hr7 HC5 HD5 HK5
  go_wp2_with fail
  go_end0
  exact ⟨rfl, _, rfl, HD7.out, HR7.out, HK7.out⟩

/-! ### is a set good -/
def leB (a b : ByteArray) : Bool := Op.bytesLess a.toList b.toList || a.toList == b.toList
def idAt (L : List ByteArray) (j : Nat) : Bool := decide ((L.getD j ⟨#[]⟩).size = 32) && (decide (j = 0) || !leB (L.getD j ⟨#[]⟩) (L.getD (j - 1) ⟨#[]⟩))
def setGood (S : SetT) : Bool := decide (1 ≤ S.1.length ∧ S.1.length ≤ 16 ∧ 1 ≤ S.2 ∧ S.2 ≤ S.1.length) && (List.range S.1.length).all (idAt S.1)
def QcRel (L : List ByteArray) (w0 : World) (i : Value) (wr : World) : Prop := ∃ k : Nat, k ≤ L.length ∧ i = .int .i64 k ∧ (List.range k).all (idAt L) = true ∧ w0 = wr
theorem range_all_snoc (L : List ByteArray) (k : Nat) : (List.range (k + 1)).all (idAt L) = ((List.range k).all (idAt L) && idAt L k) := by rw [List.range_succ, List.all_append]; simp
theorem range_all_bad {L : List ByteArray} {k n : Nat} (hk : k < n) (h : idAt L k = false) : (List.range n).all (idAt L) = false := by
  rw [Bool.eq_false_iff]
  intro h2
  have := List.all_eq_true.1 h2 k (List.mem_range.2 hk)
  rw [h] at this
  cases this

set_option maxRecDepth 100000 in
set_option maxHeartbeats 4000000 in
theorem qcheck_any (s : SV) (S : SetT) (w : World) (hS : SetM w s S) (hm : S.1.length ≤ 100000000) : Calls Tryz.prog 87 #[.agg #[.slice s.ad s.n s.c, .int .i64 s.need]] w fun e w' => e = .returned (.int .i64 (chkE (setGood S))) ∧ Below w.heap.size w w' := by
  obtain ⟨s1, s2, s3⟩ := hS
  rw [s1, s2]
  obtain ⟨L, need⟩ := S
  dsimp only at *
  obtain ⟨R, hR⟩ : ∃ R, R = chkE (setGood (L, need)) := ⟨_, rfl⟩
  rw [← hR]
  unfold setGood at hR
  dsimp only at hR
  have HL := Lib.hid s3
  have HR := Lib.hid hR
  have hB : ∀ o, Below w.heap.size w (w.alloc o) := fun o => (Below.refl _ w).alloc (Nat.le_refl _) o
  clear s1 s2 s3 hR
  by_cases h1 : (L.length : Int) < 1
  · have HX : Hid (R = 1) := Lib.hid (by rw [HR.out, decide_eq_false (fun h => by omega)]; rfl)
    go_enter Tryz.func87, Tryz.ntmps87
    go_wp2_with fail
    go_ret
    rw [HX.out]
    exact ⟨rfl, hB _⟩
  by_cases h2 : 16 < (L.length : Int)
  · have HX : Hid (R = 1) := Lib.hid (by rw [HR.out, decide_eq_false (fun h => by omega)]; rfl)
    go_enter Tryz.func87, Tryz.ntmps87
    go_wp2_with fail
    go_ret
    rw [HX.out]
    exact ⟨rfl, hB _⟩
  by_cases h3 : need < 1
  · have HX : Hid (R = 1) := Lib.hid (by rw [HR.out, decide_eq_false (fun h => by omega)]; rfl)
    go_enter Tryz.func87, Tryz.ntmps87
    go_wp2_with fail
    go_ret
    rw [HX.out]
    exact ⟨rfl, hB _⟩
  by_cases h4 : (L.length : Int) < need
  · have HX : Hid (R = 1) := Lib.hid (by rw [HR.out, decide_eq_false (fun h => by omega)]; rfl)
    go_enter Tryz.func87, Tryz.ntmps87
    go_wp2_with fail
    go_ret
    rw [HX.out]
    exact ⟨rfl, hB _⟩
  have hR2 : R = chkE ((List.range L.length).all (idAt L)) := by rw [HR.out, decide_eq_true ⟨by omega, by omega, by omega, by omega⟩]; rfl
  have HR2 := Lib.hid hR2
  clear hR2 HR
  have hb1 := blk_new w (.cells #[.slice s.ad L.length s.c, .int .i64 need] 24)
  have hK := hB (.cells #[.slice s.ad L.length s.c, .int .i64 need] 24)
  go_enter Tryz.func87, Tryz.ntmps87
  go_wp2_with fail
  generalize w.alloc (.cells #[.slice s.ad L.length s.c, .int .i64 need] 24) = w1 at hb1 hK ⊢
  have HK := Lib.hid hK
  have HLw := Lib.hid (HL.out.below hK)
  have b0 := cell_of_blk hb1 0 (v := .slice s.ad L.length s.c) rfl
  clear hb1 hK HL
  go_loopw [31] (fun i wr => QcRel L w1 i wr) (fun i _ => L.length - (intOf i).toNat)
  case atStart => exact ⟨0, Nat.zero_le _, rfl, rfl, rfl⟩
  case round =>
    obtain ⟨k, hk, rfl, ha, rfl⟩ := hrel
    have HA := Lib.hid ha
    clear ha
    by_cases hlt : k < L.length
    case pos =>
      obtain ⟨pb, po, ea, c0⟩ := HLw.out k L[k] (List.getElem?_eq_getElem hlt)
      have hgd : L.getD k ⟨#[]⟩ = L[k] := by rw [List.getD_eq_getElem?_getD, List.getElem?_eq_getElem hlt]; rfl
      have hst := range_all_snoc L k
      have hbad : idAt L k = false → R = 1 := fun h => by rw [HR2.out, range_all_bad hlt h]; rfl
      have hok : idAt L k = true → (List.range (k + 1)).all (idAt L) = true := fun h => by rw [hst, HA.out, h]; rfl
      have HBad := Lib.hid hbad
      have HOk := Lib.hid hok
      have hk0 : (0 : Int) ≤ (k : Int) := Int.natCast_nonneg _
      have hk1 : (k : Int) < (L.length : Int) := by omega
      rw [ea] at b0 ⊢
      clear hst hbad hok
      by_cases h32 : (L[k].size : Int) = 32
      case neg =>
        have HX := Lib.hid (HBad.out (by unfold idAt; rw [hgd, decide_eq_false (fun h => h32 (by omega))]; rfl))
        generalize L[k] = x at c0 h32
        have b1 : ((x.size : Int) == 32) = false := beq_eq_false_iff_ne.2 h32
        have b2 : ((x.size : Int) != 32) = true := by rw [bne, b1]; rfl
        clear hgd h32 HBad HOk
        go_wp2_with fail
        go_ret
        rw [HX.out]
        exact ⟨rfl, HK.out⟩
      case pos =>
        have b1 : ((L[k].size : Int) == 32) = true := beq_iff_eq.2 h32
        have b2 : ((L[k].size : Int) != 32) = false := by rw [bne, b1]; rfl
        by_cases hz : k = 0
        case pos =>
          have HX := Lib.hid (HOk.out (by unfold idAt; rw [hgd, decide_eq_true (show L[k].size = 32 by omega), decide_eq_true hz]; rfl))
          generalize L[k] = x at c0 b1 b2
          have hz' : ¬ (0 : Int) < (k : Int) := by omega
          clear hgd h32 HBad HOk hz
          go_wp2_with fail
          refine ⟨⟨k + 1, hlt, rfl, HX.out, rfl⟩, ?_⟩
          show L.length - ((k : Int) + 1).toNat < L.length - (k : Int).toNat
          omega
        case neg =>
          obtain ⟨j, rfl⟩ : ∃ j, k = j + 1 := ⟨k - 1, by omega⟩
          have hj : j < L.length := by omega
          obtain ⟨pb2, po2, eb, p0⟩ := HLw.out j L[j] (List.getElem?_eq_getElem hj)
          rw [ea] at eb
          cases eb
          have hgp : L.getD (j + 1 - 1) ⟨#[]⟩ = L[j] := by rw [Nat.add_sub_cancel, List.getD_eq_getElem?_getD, List.getElem?_eq_getElem hj]; rfl
          have hid : idAt L (j + 1) = !leB L[j + 1] L[j] := by
            unfold idAt
            rw [hgd, hgp, decide_eq_true (show L[j + 1].size = 32 by omega), decide_eq_false (show ¬ j + 1 = 0 by omega)]
            rfl
          rw [hid] at HBad HOk
          unfold leB at HBad HOk
          generalize L[j + 1] = x at c0 b1 b2 HBad HOk
          generalize L[j] = y at p0 HBad HOk
          have hz' : (0 : Int) < ((j + 1 : Nat) : Int) := by omega
          have hsub : ((j + 1 : Nat) : Int) - 1 = (j : Int) := by omega
          have hwr : IntKind.i64.wrap (j : Int) = (j : Int) := IntWalk.i64_in _ (by omega)
          have hj1 : (j : Int) < (L.length : Int) := by omega
          clear hgd hgp hid h32 hz
          cases hq : (Op.bytesLess x.toList y.toList || x.toList == y.toList) with
          | true =>
            rw [hq] at HBad
            have HX := Lib.hid (HBad.out rfl)
            clear HBad HOk
            go_wp2_with fail
            go_ret
            rw [HX.out]
            exact ⟨rfl, HK.out⟩
          | false =>
            rw [hq] at HOk
            have HX := Lib.hid (HOk.out rfl)
            clear HBad HOk
            go_wp2_with fail
            refine ⟨⟨j + 1 + 1, hlt, rfl, HX.out, rfl⟩, ?_⟩
            show L.length - (((j + 1 : Nat) : Int) + 1).toNat < L.length - ((j + 1 : Nat) : Int).toNat
            omega
    case neg =>
      obtain rfl : k = L.length := by omega
      have hX : R = 0 := by rw [HR2.out, HA.out]; rfl
      have HX := Lib.hid hX
      clear hX
      go_wp2_with fail
      go_ret
      rw [HX.out]
      exact ⟨rfl, HK.out⟩

/-! ### a set laid -/
def laySetP (S : SetT) (q : WS) : WS := if setGood S = true then wNum (S.1.foldl pHash (wNum q S.1.length 1)) S.2 1 else wNum q (-1) 1
def txZ : List ByteArray → Nat
  | [] => 0
  | x :: r => x.size + txZ r
theorem pHash_size (q : WS) (x : ByteArray) : (pHash q x).1.size = q.1.size + x.size := by unfold pHash; exact ByteArray.size_append
theorem foldH_size : ∀ (L : List ByteArray) (q : WS), (L.foldl pHash q).1.size = q.1.size + txZ L
  | [], q => rfl
  | x :: r, q => by
    have h1 := foldH_size r (pHash q x)
    have h2 := pHash_size q x
    show (r.foldl pHash (pHash q x)).1.size = q.1.size + (x.size + txZ r)
    omega
theorem txZ_get : ∀ (L : List ByteArray) (k : Nat) (h : k < L.length), txZ (L.take k) + L[k].size ≤ txZ L
  | x :: r, 0, h => by simp [txZ]
  | x :: r, k + 1, h => by
    have := txZ_get r k (by simpa using h)
    rw [List.take_succ_cons, txZ, txZ, List.getElem_cons_succ]
    omega
def QlRel (w0 : World) (b : Nat) (Lp : List (Nat × Array Value × TypeId)) (q : WS) (L : List ByteArray) (i : Value) (wr : World) : Prop := ∃ k : Nat, k ≤ L.length ∧ i = .int .i64 k ∧ WG 75 w0.heap.size w0 wr b Lp ((L.take k).foldl pHash q)

set_option maxRecDepth 100000 in
set_option maxHeartbeats 4000000 in
theorem qlay_any (w0 : World) (wb : Nat) (Lp : List (Nat × Array Value × TypeId)) (q : WS) (s : SV) (S : SetT) (w : World) (hS : SetM w0 s S) (hm : S.1.length ≤ 100000000) (hz : txZ S.1 ≤ 1000000000) (hq : q.1.size ≤ 1000000000) (hI : I64 S.2)
    (hG : WG 75 w0.heap.size w0 w wb Lp q) :
    Calls Tryz.prog 149 #[.pointer (some ⟨wb, 0, none⟩), .agg #[.slice s.ad s.n s.c, .int .i64 s.need]] w fun e w' => e = .returned (.tuple #[]) ∧ WG 75 w0.heap.size w0 w' wb Lp (laySetP S q) := by
  have hSw := hS.below hG.below
  have hGp := hG.push #[.slice s.ad s.n s.c, .int .i64 s.need] 24 (by decide) hG.below.size
  have hK : Below w.heap.size w (w.alloc (.cells #[.slice s.ad s.n s.c, .int .i64 s.need] 24)) := (Below.refl _ w).alloc (Nat.le_refl _) _
  have hC := qcheck_any s S _ (hSw.below hK) (by omega)
  obtain ⟨s1, s2, s3⟩ := hS
  rw [s1, s2] at hGp hC ⊢
  obtain ⟨L, need⟩ := S
  dsimp only at *
  obtain ⟨R, hR⟩ : ∃ R, R = laySetP (L, need) q := ⟨_, rfl⟩
  rw [← hR]
  unfold laySetP at hR
  dsimp only at hR
  have b0 := cell_of_blk ((hGp.par _ (List.mem_cons_self)).1) 0 (v := .slice s.ad L.length s.c) rfl
  have b1 := cell_of_blk ((hGp.par _ (List.mem_cons_self)).1) 1 (v := .int .i64 need) rfl
  have HL := Lib.hid s3
  have HR := Lib.hid hR
  have HG := Lib.hid hGp
  have HI := Lib.hid hI
  rw [s1, s2] at hK
  generalize setGood (L, need) = g at hC HR
  have HC := Lib.hid hC
  clear hC hR s1 s2 s3 hG hSw hK hGp hI
  cases g with
  | false =>
    have HX : Hid (R = wNum q (-1) 1) := Lib.hid HR.out
    have e1 : chkE false = 1 := rfl
    rw [e1] at HC
    clear HR e1
    go_enter Tryz.func149, Tryz.ntmps149
    go_wp2_with fail
    generalize w.alloc (.cells #[.slice s.ad L.length s.c, .int .i64 need] 24) = w0' at HC HG b0 b1 ⊢
    generalize w.heap.size = xb at HG b0 b1 ⊢
    refine HC.out.mono ?_
    rintro e w1 ⟨rfl, hb⟩
    have hg1 := HG.out.later hb
    have HG1 := Lib.hid hg1
    obtain ⟨v1, hv1⟩ := hg1.ex
    have HV1 := Lib.hid hv1
    clear hb hg1 hv1 HG HC
    go_wp2_with fail
    refine (pw1_any _ wb v1 q (-1) w1 (by omega) (by omega) HV1.out).mono ?_
    rintro e w2 ⟨rfl, hk⟩
    have HG2 := Lib.hid (HG1.out.step HV1.out hk).pop
    clear hk
    go_wp2_with fail
    exact bodyPost_ret (v := .tuple #[]) (results_none rfl _ _ _) rfl ⟨rfl, HX.out ▸ HG2.out⟩
  | true =>
    have HX : Hid (R = wNum (L.foldl pHash (wNum q L.length 1)) need 1) := Lib.hid HR.out
    have hq1 := wNum_size q L.length 1
    have e1 : chkE true = 0 := rfl
    rw [e1] at HC
    clear HR e1
    go_enter Tryz.func149, Tryz.ntmps149
    go_wp2_with fail
    generalize w.alloc (.cells #[.slice s.ad L.length s.c, .int .i64 need] 24) = w1 at HC HG b0 b1 ⊢
    generalize w.heap.size = xb at HG b0 b1 ⊢
    refine HC.out.mono ?_
    rintro e w2 ⟨rfl, hb⟩
    have hg2 := HG.out.later hb
    have HG2 := Lib.hid hg2
    obtain ⟨v2, hv2⟩ := hg2.ex
    have HV2 := Lib.hid hv2
    clear b0 b1
    have b0 := cell_of_blk ((hg2.par _ (List.mem_cons_self)).1) 0 (v := .slice s.ad L.length s.c) rfl
    clear hb hg2 hv2 HG HC
    go_wp2_with fail
    refine (pw1_any _ wb v2 q L.length w2 (by omega) (by omega) HV2.out).mono ?_
    rintro e w3 ⟨rfl, hk⟩
    have hg3 := HG2.out.step HV2.out hk
    have HG3 := Lib.hid hg3
    clear b0
    have b0 := cell_of_blk ((hg3.par _ (List.mem_cons_self)).1) 0 (v := .slice s.ad L.length s.c) rfl
    clear hg3 hk HG2 HV2
    generalize wNum q L.length 1 = q1 at hq1 HG3 HX
    go_wp2_with fail
    clear b0
    go_loopw [19] (fun i wr => QlRel w0 wb ((xb, #[.slice s.ad L.length s.c, .int .i64 need], 24) :: Lp) q1 L i wr) (fun i _ => L.length - (intOf i).toNat)
    case atStart => exact ⟨0, Nat.zero_le _, rfl, HG3.out⟩
    case round =>
      clear HG3
      obtain ⟨k, hk, rfl, hG⟩ := hrel
      have HG := Lib.hid hG
      obtain ⟨v4, hv4⟩ := hG.ex
      have HV4 := Lib.hid hv4
      have b1 := cell_of_blk ((hG.par _ (List.mem_cons_self)).1) 1 (v := .int .i64 need) rfl
      clear hG hv4
      by_cases hlt : k < L.length
      case pos =>
        obtain ⟨pb, po, ea, c0⟩ := (HL.out.below HG.out.below) k L[k] (List.getElem?_eq_getElem hlt)
        have hzg := txZ_get L k hlt
        have hfs := foldH_size (L.take k) q1
        have htk : (L.take (k + 1)).foldl pHash q1 = pHash ((L.take k).foldl pHash q1) L[k] := by rw [List.take_succ_eq_append_getElem hlt, List.foldl_append]; rfl
        have HTk := Lib.hid htk
        have HEa := Lib.hid ea
        rw [ea]
        generalize L[k] = x at c0 hzg HTk
        generalize (L.take k).foldl pHash q1 = cur at HG HV4 HTk hfs
        have hk0 : (0 : Int) ≤ (k : Int) := Int.natCast_nonneg _
        have hk1 : (k : Int) < (L.length : Int) := by omega
        have hcz : cur.1.size + x.size ≤ 3000000000 := by omega
        clear htk hfs hzg ea b1
        go_wp2_with fail
        refine (phash_any _ wb v4 cur x wr (by omega) HV4.out).mono ?_
        rintro e w5 ⟨rfl, hk5⟩
        have HG5 := Lib.hid (HG.out.step HV4.out hk5)
        clear hk5
        go_wp2_with fail
        have hG5 := HG5.out
        rw [← HTk.out, HEa.out] at hG5
        refine ⟨⟨k + 1, hlt, rfl, hG5⟩, ?_⟩
        show L.length - ((k : Int) + 1).toNat < L.length - (k : Int).toNat
        omega
      case neg =>
        obtain rfl : k = L.length := by omega
        have hfin : L.take L.length = L := List.take_length
        rw [hfin] at HG HV4
        have hfs := foldH_size L q1
        generalize L.foldl pHash q1 = q2 at HG HV4 HX hfs
        go_wp2_with fail
        refine (pw1_any _ wb v4 q2 need wr HI.out (by omega) HV4.out).mono ?_
        rintro e w5 ⟨rfl, hk5⟩
        have HG5 := Lib.hid (HG.out.step HV4.out hk5).pop
        clear hk5
        go_wp2_with fail
        go_end0
        exact ⟨rfl, HX.out ▸ HG5.out⟩
end Go.Proofs.YtmejjphliaiamaaGreatDoor
