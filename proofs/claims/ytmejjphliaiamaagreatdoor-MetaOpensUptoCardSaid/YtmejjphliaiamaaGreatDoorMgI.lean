import Derived.Test.YtmejjphliaiamaaGreatDoorMgG
import Derived.Test.YtmejjphliaiamaaGreatDoorMgC
import Derived.Deep.CutBlock
set_option linter.unusedVariables false
set_option linter.unusedSimpArgs false
namespace Go.Proofs.YtmejjphliaiamaaGreatDoor
open Go Go.RowKit Go.Lib Go.Sort

/-! ### the document's answer: a document out of its bytes -/
abbrev RdrR (w : World) (b : Nat) (r : RS) : Prop := Rdr 141 w b r
abbrev RdPR (b : Nat) (r : RS) (w w' : World) : Prop := RdP 141 b r w w'
structure DcR (w W : World) (r : RS) (d : DV) : Prop where
  out : DocAt W w.heap.size dz
  rd : RdrR W (w.heap.size + 1) r
  doc : DocAt W (w.heap.size + 2) d
  below : Below w.heap.size w W
theorem DcR.lt {w W : World} {r : RS} {d : DV} (H : DcR w W r d) : w.heap.size + 3 ≤ W.heap.size := (Array.getElem?_eq_some_iff.1 H.doc).1
theorem DcR.read {w W W' : World} {r r' : RS} {d : DV} (H : DcR w W r d) (k : RdPR (w.heap.size + 1) r' W W') : DcR w W' r' d :=
  ⟨blk_kp H.out k.2 (by omega), k.1, blk_kp H.doc k.2 (by omega), H.below.trans (k.2.toBelow H.below.size (fun i hi => by omega))⟩
theorem DcR.set {w W W' : World} {r : RS} {d d' : DV} (H : DcR w W r d) (k : DocK (w.heap.size + 2) d' W W') : DcR w W' r d' :=
  ⟨blk_kp H.out k.2 (by omega), blk_kp H.rd k.2 (by omega), k.1, H.below.trans (k.2.toBelow H.below.size (fun i hi => by omega))⟩
theorem DcR.later {w W W' : World} {r : RS} {d : DV} (H : DcR w W r d) (k : Below W.heap.size W W') : DcR w W' r d :=
  ⟨blk_later H.out k, blk_later H.rd k, blk_later H.doc k, H.below.trans (k.mono H.below.size)⟩
theorem DcR.put {w W : World} {r : RS} {d d' : DV} (H : DcR w W r d) (i : Nat) (v : Value) (hd : (docC d).setIfInBounds i v = docC d') : DcR w (W.setCell ⟨w.heap.size + 2, i, none⟩ v) r d' :=
  H.set (DocK.set ⟨H.doc, Kp.refl _ _⟩ i v hd)
def RdAll (s : ByteArray) (w wx : World) : Prop := ∃ d', DcR w wx (decB s).2 d' ∧ DocOwn wx (w.heap.size + 3) d' (decB s).1

def RgP (w : World) (d0 : DV) (L : List TgtT) (ad : Option Addr) (cap : Nat) (r : RS) (W : World) : Prop := OwnT W (w.heap.size + 3) (.slice ad L.length cap) L ∧ DcR w W r { d0 with lad := ad, ln := L.length, lc := cap }
theorem RgP.read {w : World} {d0 : DV} {L : List TgtT} {ad : Option Addr} {cap : Nat} {r r' : RS} {W W' : World} (H : RgP w d0 L ad cap r W) (k : RdPR (w.heap.size + 1) r' W W') : RgP w d0 L ad cap r' W' :=
  ⟨OwnL.kp H.1 k.2 (fun g hg => by have := (OwnL.lt H.1 g hg).1; omega), H.2.read k⟩
theorem RgP.later {w : World} {d0 : DV} {L : List TgtT} {ad : Option Addr} {cap : Nat} {r : RS} {W W' : World} (H : RgP w d0 L ad cap r W) (k : Below W.heap.size W W') : RgP w d0 L ad cap r W' := ⟨OwnL.below H.1 k, H.2.later k⟩
theorem RgP.far {w : World} {d0 : DV} {L : List TgtT} {ad : Option Addr} {cap : Nat} {r : RS} {W W' : World} {x : Nat} (H : RgP w d0 L ad cap r W) (k : Kp (fun k => k = x) W W') (hx : w.heap.size + 3 ≤ x) (hne : (Value.slice ad L.length cap).ownBlock ≠ some x) : RgP w d0 L ad cap r W' :=
  ⟨OwnL.kp H.1 k (fun g hg e => by subst e; exact hne hg), ⟨blk_kp H.2.out k (by omega), blk_kp H.2.rd k (by omega), blk_kp H.2.doc k (by omega), H.2.below.trans (k.toBelow H.2.below.size (fun i hi => by omega))⟩⟩
structure RgS (w : World) (d0 : DV) (L : List TgtT) (r : RS) (wr : World) : Prop where
  ex : ∃ ad cap, OwnT wr (w.heap.size + 3) (.slice ad L.length cap) L ∧ DcR w wr r { d0 with lad := ad, ln := L.length, lc := cap }
def RgRel (w : World) (d0 : DV) (r : RS) (n : Nat) (i : Value) (wr : World) : Prop := ∃ k : Nat, k ≤ n ∧ i = .int .i64 k ∧ RgS w d0 (takeTN r k).1 (takeTN r k).2 wr
theorem RgS.step {w : World} {d0 : DV} {L : List TgtT} {r r' : RS} {wr w' : World} (H : RgS w d0 L r wr) (k : RdPR (w.heap.size + 1) r' wr w') : RgS w d0 L r' w' := by
  obtain ⟨ad, cap, ho, hd⟩ := H.ex
  exact ⟨ad, cap, OwnL.kp ho k.2 (fun g hg => by have := (OwnL.lt ho g hg).1; omega), hd.read k⟩
theorem RgS.later {w : World} {d0 : DV} {L : List TgtT} {r : RS} {wr w' : World} (H : RgS w d0 L r wr) (k : Below wr.heap.size wr w') : RgS w d0 L r w' := by
  obtain ⟨ad, cap, ho, hd⟩ := H.ex
  exact ⟨ad, cap, OwnL.below ho k, hd.later k⟩
structure RoS (w : World) (d0 : DV) (L : List SetT) (r : RS) (wr : World) : Prop where
  ex : ∃ f, OwnF wr (w.heap.size + 3) f L ∧ DcR w wr r (setF d0 f)
def RoRel (w : World) (d0 : DV) (r : RS) (i : Value) (wr : World) : Prop := ∃ k : Nat, k ≤ 4 ∧ i = .int .i64 k ∧ RoS w d0 (takeRN r k).1 (takeRN r k).2 wr
theorem takeRN_succ (r : RS) (k : Nat) : takeRN r (k + 1) = ((takeRN r k).1 ++ [(takeSetP (takeRN r k).2).1], (takeSetP (takeRN r k).2).2) := rfl
/-- a set taken and stored into the document. -/
theorem RoS.put {w : World} {d0 : DV} {L : List SetT} {r : RS} {wr w' : World} (H : RoS w d0 L r wr) (k : Nat) (hk : k < 5) (hL : L.length = k) (S : SetT) (r' : RS) (ad : Option Addr) (cp : Nat) (how : OwnS w' wr.heap.size (.slice ad S.1.length cp) S.1) (hk2 : RdPR (w.heap.size + 1) r' wr w') :
    RoS w d0 (L ++ [S]) r' ((w'.setCell ⟨w.heap.size + 2, 3 + 2 * k, none⟩ (.slice ad S.1.length cp)).setCell ⟨w.heap.size + 2, 3 + 2 * k + 1, none⟩ (.int .i64 S.2)) := by
  obtain ⟨f, ho, hd⟩ := H.ex
  have hl := hd.lt
  have hd2 := hd.read hk2
  have kp3 : Kp (fun k => k = w.heap.size + 2) w' ((w'.setCell ⟨w.heap.size + 2, 3 + 2 * k, none⟩ (.slice ad S.1.length cp)).setCell ⟨w.heap.size + 2, 3 + 2 * k + 1, none⟩ (.int .i64 S.2)) := ((Kp.refl (fun k => k = w.heap.size + 2) w').setCell (p := ⟨w.heap.size + 2, 3 + 2 * k, none⟩) (.inl rfl) _).setCell (p := ⟨w.heap.size + 2, 3 + 2 * k + 1, none⟩) (.inl rfl) _
  have hd3 := setF_set hd2.doc k hk ⟨ad, S.1.length, cp, S.2⟩
  have how2 : OwnS w' (w.heap.size + 3) (.slice ad S.1.length cp) S.1 := OwnL.base how (fun g hg => by have := (OwnL.lt how g hg).1; omega)
  refine ⟨upF f L.length ⟨ad, S.1.length, cp, S.2⟩, ?_, ?_⟩
  · exact ((ho.kp hk2.2 (fun g hg => by omega)).kp kp3 (fun g hg => by omega)).up ⟨ad, S.1.length, cp, S.2⟩ S rfl rfl (OwnL.kp how2 kp3 (fun g hg => by have := (OwnL.lt how2 g hg).1; omega))
  · rw [hL]
    exact hd2.set ⟨hd3, kp3⟩

set_option maxRecDepth 100000 in
set_option maxHeartbeats 2000000 in
theorem rdecode_all (s : ByteArray) (w : World) (hs : s.size ≤ 1000000000) (hV : VarsP w) : Calls Tryz.prog 26 #[.string s] w (DecAll s w) := by
  obtain ⟨z1, z2, z3⟩ := rC_size s
  have hr4 : (decB s).2.1.size ≤ 1000000000 := by have := body_size (headP s) (rC s).2; unfold decB; omega
  have hfit : CFit (decB s).1 ∨ ¬ (1 ≤ (rA s).1 ∧ (rA s).1 ≤ 4) := by
    by_cases h1 : (rA s).1 = 1
    · exact .inl (fit1 hs h1)
    · by_cases h2 : (rA s).1 = 2
      · exact .inl (fit2 h2)
      · by_cases h3 : (rA s).1 = 3
        · exact .inl (fit3 hs h3)
        · by_cases h4 : (rA s).1 = 4
          · exact .inl (fit4 h4)
          · exact .inr (by omega)
  have hf0 : ¬ (1 ≤ (rA s).1 ∧ (rA s).1 ≤ 4) → decB s = (headP s, (rC s).2) := fun h => by
    unfold decB bodyP
    have g : (headP s).kind = (rA s).1 := rfl
    rw [g, if_neg (by omega), if_neg (by omega), if_neg (by omega), if_neg (by omega)]
  have hfit2 : CFit (decB s).1 := by
    rcases hfit with h | h
    · exact h
    · rw [hf0 h]
      exact ⟨Nat.zero_le _, Nat.zero_le _, Nat.zero_le _, Nat.zero_le _, fun S hS => by have : S = ([], 0) := by simpa [PD.S, headP, pz] using hS
                                                                                        rw [this]; exact Nat.zero_le _, Nat.zero_le _⟩
  have HCk := Lib.hid (fun d W (hb : Below w.heap.size w W) (h : DocOwn W (w.heap.size + 3) d (decB s).1) => rcheck_all _ d W h.m hfit2 (hV.below hb))
  unfold docV at HCk
  have hA : qNum (s, 0) 1 = rA s := by rw [qNum_small _ (by decide)]; rfl
  have hB : qNum (rA s).2 2 = rB s := by rw [qNum_small _ (by decide)]; rfl
  have hC : qNum (rB s).2 8 = rC s := rfl
  have HA := Lib.hid hA
  have HB := Lib.hid hB
  have HC := Lib.hid hC
  have HF0 := Lib.hid hf0
  have hH : dHead s = { dz with kind := (rA s).1, ver := (rB s).1, exp := (rC s).1 } := rfl
  have HH := Lib.hid hH
  have hD : decD s = if (rEnd (decB s).2).2 ≠ 0 ∨ chkP (decB s).1 ≠ 0 then (pz, 3) else ((decB s).1, 0) := rfl
  have HDd := Lib.hid hD
  unfold DecAll
  generalize decD s = Dd at HDd ⊢
  clear hfit hf0 hfit2 hA hB hC hH hD hV
  obtain ⟨w1, hw1⟩ : ∃ w1, w1 = w.alloc (.cells (docC dz) 30) := ⟨_, rfl⟩
  have ho1 : DocAt w1 w.heap.size dz := by rw [hw1]; exact blk_new _ _
  have hb1 : Below w.heap.size w w1 := by rw [hw1]; exact (Below.refl _ w).alloc (Nat.le_refl _) _
  have hz1 : w1.heap.size = w.heap.size + 1 := by rw [hw1, size_alloc]
  simp only [docC, dz, sz] at hw1
  go_enter Tryz.func26, Tryz.ntmps26
  go_wp2_with fail
  rw [← hw1]
  clear hw1
  refine (qread_any s w1).mono ?_
  rintro e w2 ⟨rfl, hw2⟩
  have ho2 : DocAt w2 w.heap.size dz := by rw [hw2]; exact blk_alloc ho1 _
  have hr2 : RdrR w2 w1.heap.size (s, 0) := by rw [hw2]; exact rdr_new _ w1 s
  have hb2 : Below w.heap.size w w2 := by rw [hw2]; exact hb1.alloc hb1.size _
  have hz2 : w2.heap.size = w.heap.size + 2 := by rw [hw2, size_alloc, hz1]
  clear hw2 ho1 hb1
  rw [hz1] at hr2 ⊢
  obtain ⟨w4, hw4⟩ : ∃ w4, w4 = w2.alloc (.cells (docC dz) 30) := ⟨_, rfl⟩
  have H4 : DcR w w4 (s, 0) dz := by
    rw [hw4]
    refine ⟨blk_alloc ho2 _, blk_alloc hr2 _, ?_, hb2.alloc hb2.size _⟩
    rw [← hz2]
    exact blk_new _ _
  have HW4 := Lib.hid H4
  simp only [docC, dz, sz] at hw4
  clear ho2 hr2 hb2 H4
  go_wp2_with fail
  rw [← hw4]
  clear hw4
  have h3 := qnum_any (w.heap.size + 1) (s, 0) 1 w4 (by decide) (by show s.size ≤ _; omega) HW4.out.rd
  rw [HA.out] at h3
  refine h3.mono ?_
  rintro e w5 ⟨rfl, k5⟩
  have H5 := HW4.out.read k5
  have c1 := cell_of_blk H5.doc 0 (v := .int .i64 0) rfl
  have f1 := free_of_blk H5.doc 0
  have HW5 := Lib.hid (H5.put 0 (.int .i64 (rA s).1) (d' := { dz with kind := (rA s).1 }) rfl)
  clear h3 k5 H5 HW4 HA
  go_wp2_with fail
  clear c1 f1
  generalize w5.setCell ⟨w.heap.size + 2, 0, none⟩ (.int .i64 (rA s).1) = w6 at HW5 ⊢
  have h3 := qnum_any (w.heap.size + 1) (rA s).2 2 w6 (by decide) (by omega) HW5.out.rd
  rw [HB.out] at h3
  refine h3.mono ?_
  rintro e w7 ⟨rfl, k7⟩
  have H7 := HW5.out.read k7
  have c1 := cell_of_blk H7.doc 1 (v := .int .i64 0) rfl
  have f1 := free_of_blk H7.doc 1
  have HW7 := Lib.hid (H7.put 1 (.int .i64 (rB s).1) (d' := { dz with kind := (rA s).1, ver := (rB s).1 }) rfl)
  clear h3 k7 H7 HW5 HB
  go_wp2_with fail
  clear c1 f1
  generalize w7.setCell ⟨w.heap.size + 2, 1, none⟩ (.int .i64 (rB s).1) = w8 at HW7 ⊢
  have h3 := qnum_any (w.heap.size + 1) (rB s).2 8 w8 (by decide) (by omega) HW7.out.rd
  rw [HC.out] at h3
  refine h3.mono ?_
  rintro e w9 ⟨rfl, k9⟩
  have H9 := HW7.out.read k9
  have c1 := cell_of_blk H9.doc 2 (v := .int .i64 0) rfl
  have f1 := free_of_blk H9.doc 2
  have H10 := H9.put 2 (.int .i64 (rC s).1) (d' := { dz with kind := (rA s).1, ver := (rB s).1, exp := (rC s).1 }) rfl
  rw [← HH.out] at H10
  have HW9 := Lib.hid H10
  have c0 : (w9.setCell ⟨w.heap.size + 2, 2, none⟩ (.int .i64 (rC s).1)).cell? ⟨w.heap.size + 2, 0, none⟩ = some (.int .i64 (rA s).1) := by
    have h := H10.doc
    rw [HH.out] at h
    exact cell_of_blk h 0 (v := .int .i64 (rA s).1) rfl
  clear h3 k9 H9 H10 HW7 HC
  go_upto_block 0 with fail
  clear c1 f1 c0
  generalize w9.setCell ⟨w.heap.size + 2, 2, none⟩ (.int .i64 (rC s).1) = w10 at HW9 ⊢
  go_cut [6, 7, 8, 9] (fun x6 x7 x8 x9 wx => RdAll s w wx)
  case first =>
    clear HCk HDd HH hr4
    by_cases hk : 1 ≤ (rA s).1 ∧ (rA s).1 ≤ 4
    case neg =>
      have b1 : ((rA s).1 == 1) = false := beq_eq_false_iff_ne.2 (by omega)
      have b2 : ((rA s).1 == 2) = false := beq_eq_false_iff_ne.2 (by omega)
      have b3 : ((rA s).1 == 3) = false := beq_eq_false_iff_ne.2 (by omega)
      have b4 : ((rA s).1 == 4) = false := beq_eq_false_iff_ne.2 (by omega)
      have hb := HF0.out hk
      have HR : Hid (RdAll s w w10) := Lib.hid (by
        unfold RdAll
        rw [hb]
        exact ⟨dHead s, HW9.out, fun _ => none, fun _ => 0, rfl, own_none rfl rfl rfl rfl rfl _ _ (fun _ _ => ⟨rfl, rfl⟩), ownL_nil _ _⟩)
      clear hk hb
      go_wp2_with fail
      go_meet
      exact HR.out
    by_cases k1 : (rA s).1 = 1
    case pos =>
      have b1 : ((rA s).1 == 1) = true := beq_iff_eq.2 k1
      have b2 : ((rA s).1 == 2) = false := beq_eq_false_iff_ne.2 (by omega)
      have b3 : ((rA s).1 == 3) = false := beq_eq_false_iff_ne.2 (by omega)
      have b4 : ((rA s).1 == 4) = false := beq_eq_false_iff_ne.2 (by omega)
      obtain ⟨A, hA⟩ : ∃ A, A = takeRN (rC s).2 5 := ⟨_, rfl⟩
      have hRd : RdAll s w = fun wx => ∃ d', DcR w wx (rt3 (rC s).2).2 d' ∧ DocOwn wx (w.heap.size + 3) d' { headP s with s0 := nthS A.1 0, s1 := nthS A.1 1, s2 := nthS A.1 2, s3 := nthS A.1 3, s4 := nthS A.1 4, log := (rt2 (rC s).2).1, org := (rt3 (rC s).2).1 } := by
        funext wx
        unfold RdAll
        rw [(decB1 k1).1, (decB1 k1).2, hA]
      have hA5 := takeRN_succ (rC s).2 4
      have hA4 : A = ((takeRN (rC s).2 4).1 ++ [(takeSetP (takeRN (rC s).2 4).2).1], (takeSetP (takeRN (rC s).2 4).2).2) := by rw [hA]; exact hA5
      have hAl : A.1.length = 5 := by rw [hA]; exact takeRN_len _ 5
      have hAz : A.2.1.size ≤ (rC s).2.1.size := by rw [hA]; exact takeRN_size _ 5
      have e2 : rRaw A.2 32 = rt2 (rC s).2 := by rw [hA]; rfl
      have e3 : rTxt (rt2 (rC s).2).2 64 = rt3 (rC s).2 := rfl
      have hz2 : (rt2 (rC s).2).2.1.size ≤ A.2.1.size := by rw [← e2]; exact (rRaw_size _ 32).2
      have HRd := Lib.hid hRd
      have HA4 := Lib.hid hA4
      have HAl := Lib.hid hAl
      have E2 := Lib.hid e2
      have E3 := Lib.hid e3
      clear k1 hk hRd HF0 hA hA5 hA4 hAl e2 e3
      generalize rt3 (rC s).2 = F3 at *
      generalize rt2 (rC s).2 = F2 at *
      have hI0 : RoS w (dHead s) [] (rC s).2 w10 := ⟨svs (dHead s), fun j S h => by simp at h, by rw [setF_id]; exact HW9.out⟩
      have HI0 := Lib.hid hI0
      clear hI0 HW9
      go_wp2_with fail
      go_loopw [6] (fun i wr => RoRel w (dHead s) (rC s).2 i wr) (fun i _ => 4 - (intOf i).toNat)
      case atStart => exact ⟨0, Nat.zero_le _, rfl, HI0.out⟩
      case round =>
        clear HI0
        obtain ⟨k, hk, rfl, hI⟩ := hrel
        have HI := Lib.hid hI
        have hsz := takeRN_size (rC s).2 k
        have hln := takeRN_len (rC s).2 k
        by_cases hlt : k < 4
        case pos =>
          have hs1 := takeRN_succ (rC s).2 k
          have ht1 : (takeRN (rC s).2 (k + 1)).1 = (takeRN (rC s).2 k).1 ++ [(takeSetP (takeRN (rC s).2 k).2).1] := by rw [hs1]
          have ht2 : (takeRN (rC s).2 (k + 1)).2 = (takeSetP (takeRN (rC s).2 k).2).2 := by rw [hs1]
          have HT1 := Lib.hid ht1
          have HT2 := Lib.hid ht2
          clear hs1 ht1 ht2
          generalize (takeRN (rC s).2 k).2 = ra at HI HT1 HT2 hsz hI
          generalize (takeRN (rC s).2 k).1 = L at HI HT1 hln hI
          obtain ⟨f, hof, hdf⟩ := hI.ex
          have HC := rtaketq_any (w.heap.size + 1) ra wr (by omega) hdf.rd
          unfold TrPost at HC
          generalize takeSetP ra = q at HC HT1 HT2
          have HCs := Lib.hid HC
          have hk0 : (0 : Int) ≤ (k : Int) := Int.natCast_nonneg _
          have hk1 : (k : Int) < 4 := by omega
          have HDf := Lib.hid hdf
          clear hI hof hdf HC
          go_wp2_with fail
          refine HCs.out.mono ?_
          rintro e w11 ⟨ad, cp, rfl, how, hk11⟩
          have hd2 := (HDf.out.read hk11).doc
          obtain ⟨s', hs', c1, c2⟩ := setA_at (setF (dHead s) f) (w.heap.size + 2) w11 hd2 k hlt
          have f1 := free_of_blk hd2 (3 + k * 2)
          have f2 := free_of_blk hd2 (3 + k * 2 + 1)
          have hI3 := HI.out.put k (by omega) hln q.1 q.2 ad cp how hk11
          rw [Nat.mul_comm 2 k, ← HT1.out, ← HT2.out] at hI3
          have HI3 := Lib.hid hI3
          clear how hk11 hd2 hs' hI3 HI HDf HCs
          go_wp2_with fail
          refine ⟨⟨k + 1, hlt, rfl, HI3.out⟩, ?_⟩
          show 4 - ((k : Int) + 1).toNat < 4 - (k : Int).toNat
          omega
        case neg =>
          obtain rfl : k = 4 := by omega
          generalize (takeRN (rC s).2 4).2 = ra at HI HA4 hsz hI
          generalize (takeRN (rC s).2 4).1 = L at HI HA4 hln hI
          obtain ⟨f, hof, hdf⟩ := hI.ex
          have HC := rtaketq_any (w.heap.size + 1) ra wr (by omega) hdf.rd
          unfold TrPost at HC
          generalize takeSetP ra = q at HC HA4
          have HCs := Lib.hid HC
          have HDf := Lib.hid hdf
          clear hI hof hdf HC
          go_wp2_with fail
          refine HCs.out.mono ?_
          rintro e w11 ⟨ad, cp, rfl, how, hk11⟩
          have hd2 := (HDf.out.read hk11).doc
          obtain ⟨s', hs', c1, c2⟩ := setL_at (setF (dHead s) f) (w.heap.size + 2) w11 hd2 4 (by decide)
          have c1' : w11.cell? ⟨w.heap.size + 2, 11, none⟩ = some (.slice s'.ad s'.n s'.c) := c1
          have c2' : w11.cell? ⟨w.heap.size + 2, 12, none⟩ = some (.int .i64 s'.need) := c2
          have f1 := free_of_blk hd2 11
          have f2 := free_of_blk hd2 12
          have hI3 := HI.out.put 4 (by omega) hln q.1 q.2 ad cp how hk11
          have hA1 : L ++ [q.1] = A.1 := by rw [HA4.out]
          have hA2 : q.2 = A.2 := by rw [HA4.out]
          rw [hA1, hA2] at hI3
          have HI3 : Hid (RoS w (dHead s) A.1 A.2 ((w11.setCell ⟨w.heap.size + 2, 11, none⟩ (.slice ad q.1.1.length cp)).setCell ⟨w.heap.size + 2, 12, none⟩ (.int .i64 q.1.2))) := Lib.hid hI3
          clear how hk11 hd2 hs' hI3 HI HDf HCs c1 c2 hA1 hA2
          go_wp2_with fail
          clear c1' c2' f1 f2
          generalize (w11.setCell ⟨w.heap.size + 2, 11, none⟩ (.slice ad q.1.1.length cp)).setCell ⟨w.heap.size + 2, 12, none⟩ (.int .i64 q.1.2) = w12 at HI3 ⊢
          obtain ⟨f, hof, hdf⟩ := HI3.out.ex
          have h3 := qraw_any (w.heap.size + 1) A.2 32 w12 (by omega) hdf.rd
          rw [E2.out] at h3
          have HOf := Lib.hid hof
          have HDf := Lib.hid hdf
          clear hof hdf HI3
          refine h3.mono ?_
          rintro e w13 ⟨rfl, k13⟩
          have H13 := HDf.out.read k13
          have HO13 := Lib.hid (HOf.out.kp k13.2 (fun g hg => by omega))
          have c1 := cell_of_blk H13.doc 13 (v := .string ⟨#[]⟩) rfl
          have f1 := free_of_blk H13.doc 13
          have kp13 : Kp (fun k => k = w.heap.size + 2) w13 (w13.setCell ⟨w.heap.size + 2, 13, none⟩ (.string F2.1)) := (Kp.refl (fun k => k = w.heap.size + 2) w13).setCell (p := ⟨w.heap.size + 2, 13, none⟩) (.inl rfl) _
          have HO14 := Lib.hid (HO13.out.kp kp13 (fun g hg => by omega))
          have HW13 := Lib.hid (H13.put 13 (.string F2.1) (d' := { setF (dHead s) f with log := F2.1 }) rfl)
          clear h3 k13 H13 HOf HDf E2 HO13 kp13
          go_wp2_with fail
          clear c1 f1
          generalize w13.setCell ⟨w.heap.size + 2, 13, none⟩ (.string F2.1) = w14 at HW13 HO14 ⊢
          have h3 := qtxt_any (w.heap.size + 1) F2.2 64 w14 (by decide) (by omega) HW13.out.rd
          rw [E3.out] at h3
          refine h3.mono ?_
          rintro e w15 ⟨rfl, k15⟩
          have H15 := HW13.out.read k15
          have HO15 := Lib.hid (HO14.out.kp k15.2 (fun g hg => by omega))
          have c1 := cell_of_blk H15.doc 14 (v := .string ⟨#[]⟩) rfl
          have f1 := free_of_blk H15.doc 14
          have kp15 : Kp (fun k => k = w.heap.size + 2) w15 (w15.setCell ⟨w.heap.size + 2, 14, none⟩ (.string F3.1)) := (Kp.refl (fun k => k = w.heap.size + 2) w15).setCell (p := ⟨w.heap.size + 2, 14, none⟩) (.inl rfl) _
          have HO16 := Lib.hid (HO15.out.kp kp15 (fun g hg => by omega))
          have HW15 := Lib.hid (H15.put 14 (.string F3.1) (d' := { setF (dHead s) f with log := F2.1, org := F3.1 }) rfl)
          clear h3 k15 H15 HW13 E3 HO14 HO15 kp15
          go_wp2_with fail
          go_meet
          rw [HRd.out]
          exact ⟨_, HW15.out, own_root HAl.out HO16.out⟩
    by_cases k2 : (rA s).1 = 2
    case pos =>
      have b1 : ((rA s).1 == 1) = false := beq_eq_false_iff_ne.2 (by omega)
      have b2 : ((rA s).1 == 2) = true := beq_iff_eq.2 k2
      have b3 : ((rA s).1 == 3) = false := beq_eq_false_iff_ne.2 (by omega)
      have b4 : ((rA s).1 == 4) = false := beq_eq_false_iff_ne.2 (by omega)
      have hRd : RdAll s w = fun wx => ∃ d', DcR w wx (takeTg (rC s).2).2 d' ∧ DocOwn wx (w.heap.size + 3) d' { headP s with T := (takeTg (rC s).2).1 } := by
        funext wx
        unfold RdAll
        rw [(decB2 k2).1, (decB2 k2).2]
      obtain ⟨n, hn, hn255⟩ := rNum1 (rC s).2
      have htp : takeTg (rC s).2 = takeTN (rNum (rC s).2 1).2 n := by unfold takeTg; rw [hn]; rfl
      rw [htp] at hRd
      have hz4 : (rNum (rC s).2 1).2.1.size ≤ (rC s).2.1.size := (rRaw_size (rC s).2 1).2
      have h3 := qnum_any (w.heap.size + 1) (rC s).2 1 w10 (by decide) (by omega) HW9.out.rd
      rw [qNum_small _ (by decide), show ((1 : Nat) : Int) = 1 from rfl, hn] at h3
      generalize (rNum (rC s).2 1).2 = r1 at h3 hz4 hRd
      have HRd := Lib.hid hRd
      have H3 := Lib.hid h3
      clear k1 k2 hk hRd HF0 htp hn h3
      go_wp2_with fail
      refine H3.out.mono ?_
      rintro e w11 ⟨rfl, k11⟩
      have hI0 : RgS w (dHead s) [] r1 w11 := ⟨none, 0, ownL_nil _ _, HW9.out.read k11⟩
      have HI0 := Lib.hid hI0
      clear hI0 k11 H3 HW9
      go_wp2_with fail
      go_loopw [8] (fun i wr => RgRel w (dHead s) r1 n i wr) (fun i _ => n - (intOf i).toNat)
      case atStart => exact ⟨0, Nat.zero_le _, rfl, HI0.out⟩
      case round =>
        clear HI0
        obtain ⟨k, hk, rfl, hI⟩ := hrel
        have HI := Lib.hid hI
        have hsz := takeTN_size r1 k
        have hln := Lib.hid (takeTN_len r1 k)
        clear hI
        by_cases hlt : k < n
        case pos =>
          have ht1 : (takeTN r1 (k + 1)).1 = (takeTN r1 k).1 ++ [((tt1 (takeTN r1 k).2).1, (tt2 (takeTN r1 k).2).1, (tt3 (takeTN r1 k).2).1)] := rfl
          have ht2 : (takeTN r1 (k + 1)).2 = (tt3 (takeTN r1 k).2).2 := rfl
          have HT1 := Lib.hid ht1
          have HT2 := Lib.hid ht2
          have hk0 : (k : Int) < (n : Int) := by omega
          clear ht1 ht2
          generalize (takeTN r1 k).2 = ra at HI HT1 HT2 hsz
          generalize (takeTN r1 k).1 = L at HI HT1 hln
          obtain ⟨y1, y2, y3⟩ := tt_size ra
          have e1 : rNum ra 1 = tt1 ra := rfl
          have e2 : rNum (tt1 ra).2 2 = tt2 ra := rfl
          have e3 : rRaw (tt2 ra).2 32 = tt3 ra := rfl
          generalize tt3 ra = C at *
          generalize tt2 ra = B at *
          generalize tt1 ra = A at *
          have E1 := Lib.hid e1
          have E2 := Lib.hid e2
          have E3 := Lib.hid e3
          clear e1 e2 e3
          obtain ⟨ad, cap, ho0, hd0⟩ := HI.out.ex
          have hwl : w.heap.size + 3 ≤ wr.heap.size := hd0.lt
          have hne : (Value.slice ad L.length cap).ownBlock ≠ some wr.heap.size := fun h => by have := (OwnL.lt ho0 _ h).2; omega
          obtain ⟨w12, hw12⟩ : ∃ w12, w12 = wr.alloc (.cells #[.int .i64 0, .int .i64 0, .string ⟨#[]⟩] 65) := ⟨_, rfl⟩
          have hP12 : RgP w (dHead s) L ad cap ra w12 := by rw [hw12]; exact RgP.later ⟨ho0, hd0⟩ ((Below.refl _ wr).alloc (Nat.le_refl _) _)
          have hx12 : w12.heap[wr.heap.size]? = some (.cells #[.int .i64 0, .int .i64 0, .string ⟨#[]⟩] 65 (0, 0)) := by rw [hw12]; exact blk_new _ _
          have HP12 := Lib.hid hP12
          have HX12 := Lib.hid hx12
          clear ho0 hd0 hP12 hx12 HI
          go_wp2_with fail
          rw [← hw12]
          clear hw12
          generalize wr.heap.size = xb at HX12 hwl hne ⊢
          have h3 := qnum_any (w.heap.size + 1) ra 1 w12 (by decide) (by omega) HP12.out.2.rd
          rw [qNum_small _ (by decide), show ((1 : Nat) : Int) = 1 from rfl, E1.out] at h3
          refine h3.mono ?_
          rintro e w13 ⟨rfl, k13⟩
          have hx13 := blk_kp HX12.out k13.2 (by omega)
          have hP13 := HP12.out.read k13
          have x0 := cell_of_blk hx13 0 (v := .int .i64 0) rfl
          have xf0 := free_of_blk hx13 0
          have hx14 : (w13.setCell ⟨xb, 0, none⟩ (.int .i64 A.1)).heap[xb]? = some (.cells #[.int .i64 A.1, .int .i64 0, .string ⟨#[]⟩] 65 (0, 0)) := blk_set hx13 _
          have hk14 : Kp (fun k => k = xb) w13 (w13.setCell ⟨xb, 0, none⟩ (.int .i64 A.1)) := (Kp.refl (fun k => k = xb) w13).setCell (p := ⟨xb, 0, none⟩) (.inl rfl) _
          have HP14 := Lib.hid (hP13.far hk14 hwl hne)
          have HX14 := Lib.hid hx14
          clear h3 k13 hx13 hP13 hx14 hk14 HP12 HX12 E1
          go_wp2_with fail
          clear x0 xf0
          generalize w13.setCell ⟨xb, 0, none⟩ (.int .i64 A.1) = w14 at HP14 HX14 ⊢
          have h3 := qnum_any (w.heap.size + 1) A.2 2 w14 (by decide) (by omega) HP14.out.2.rd
          rw [qNum_small _ (by decide), show ((2 : Nat) : Int) = 2 from rfl, E2.out] at h3
          refine h3.mono ?_
          rintro e w15 ⟨rfl, k15⟩
          have hx15 := blk_kp HX14.out k15.2 (by omega)
          have hP15 := HP14.out.read k15
          have x1 := cell_of_blk hx15 1 (v := .int .i64 0) rfl
          have xf1 := free_of_blk hx15 1
          have hx16 : (w15.setCell ⟨xb, 1, none⟩ (.int .i64 B.1)).heap[xb]? = some (.cells #[.int .i64 A.1, .int .i64 B.1, .string ⟨#[]⟩] 65 (0, 0)) := blk_set hx15 _
          have hk16 : Kp (fun k => k = xb) w15 (w15.setCell ⟨xb, 1, none⟩ (.int .i64 B.1)) := (Kp.refl (fun k => k = xb) w15).setCell (p := ⟨xb, 1, none⟩) (.inl rfl) _
          have HP16 := Lib.hid (hP15.far hk16 hwl hne)
          have HX16 := Lib.hid hx16
          clear h3 k15 hx15 hP15 hx16 hk16 HP14 HX14 E2
          go_wp2_with fail
          clear x1 xf1
          generalize w15.setCell ⟨xb, 1, none⟩ (.int .i64 B.1) = w16 at HP16 HX16 ⊢
          have h3 := qraw_any (w.heap.size + 1) B.2 32 w16 (by omega) HP16.out.2.rd
          rw [E3.out] at h3
          refine h3.mono ?_
          rintro e w17 ⟨rfl, k17⟩
          have hx17 := blk_kp HX16.out k17.2 (by omega)
          have hP17 := HP16.out.read k17
          have x0 := cell_of_blk hx17 0 (v := .int .i64 A.1) rfl
          have x1 := cell_of_blk hx17 1 (v := .int .i64 B.1) rfl
          have x2 := cell_of_blk hx17 2 (v := .string ⟨#[]⟩) rfl
          have xf2 := free_of_blk hx17 2
          have hx18 : (w17.setCell ⟨xb, 2, none⟩ (.string C.1)).heap[xb]? = some (.cells #[.int .i64 A.1, .int .i64 B.1, .string C.1] 65 (0, 0)) := blk_set hx17 _
          have hk18 : Kp (fun k => k = xb) w17 (w17.setCell ⟨xb, 2, none⟩ (.string C.1)) := (Kp.refl (fun k => k = xb) w17).setCell (p := ⟨xb, 2, none⟩) (.inl rfl) _
          have hP18 := hP17.far hk18 hwl hne
          have HP18 := Lib.hid hP18
          have HX18 := Lib.hid hx18
          clear h3 k17 hx17 hP17 hx18 hk18 HP16 HX16 E3 hP18
          go_upto_region 24 with fail
          clear x0 x1 x2 xf2
          generalize w17.setCell ⟨xb, 2, none⟩ (.string C.1) = w18 at HP18 HX18 ⊢
          have c15 : w18.cell? ⟨w.heap.size + 2, 15, none⟩ = some (.slice ad L.length cap) := cell_of_blk HP18.out.2.doc 15 (v := .slice ad L.length cap) rfl
          have f15 : w18.frozen? ⟨w.heap.size + 2, 15, none⟩ = false := free_of_blk HP18.out.2.doc 15
          have x0 := cell_of_blk HX18.out 0 (v := .int .i64 A.1) rfl
          have x1 := cell_of_blk HX18.out 1 (v := .int .i64 B.1) rfl
          have x2 := cell_of_blk HX18.out 2 (v := .string C.1) rfl
          have hne2 : (Value.slice ad L.length cap).ownBlock ≠ some (w.heap.size + 2) := fun h => by have := (OwnL.lt HP18.out.1 _ h).1; omega
          obtain ⟨i0, hi, hz0, hz1', hz2'⟩ := info_parts infoTg
          have HI2 := Lib.hid hz2'
          have hbs : w.heap.size + 3 ≤ (w18.alloc (.cells #[.int .i64 A.1, .int .i64 B.1, .string C.1] 65)).heap.size := by rw [size_alloc]; have := HP18.out.2.lt; omega
          clear hz2'
          go_wp2_with (first | (at_builtin; refine wpList_appL _ rfl _ _ 26 rfl i0 (.agg #[.int .i64 0, .int .i64 0, .string ⟨#[]⟩]) 32 Tryz.underlying26 hi hz0 hz1' HI2.out rfl (by decide) (w.heap.size + 3) (.slice ad L.length cap) L rfl (OwnL.alloc HP18.out.1 _) (A.1, B.1, C.1) rfl ⟨w18.heap.size, 0, none⟩ 1 rfl (one_tgt w18 (A.1, B.1, C.1) _) (by intro u hu; simp [mkT] at hu; rcases hu with rfl | rfl | rfl <;> rfl) (by have := hln.out; omega) (by decide) hbs ?_) | fail)
          intro v' w19 ho19 hg19 hv19
          obtain ⟨ao8, cap8, rfl, -, -, -⟩ := OwnL.form ho19
          have e0 := keep_cell0 c15 hg19 hne2
          have e1 := keep_free0 c15 f15 hg19 hne2
          have hown := OwnL.lt HP18.out.1
          have k19 : Kp (fun k => (Value.slice ad L.length cap).ownBlock = some k) w18 w19 := ((Kp.refl (fun k => (Value.slice ad L.length cap).ownBlock = some k) w18).alloc _).grown hg19 (fun k h => .inl h)
          have hd19 : DcR w w19 C.2 { dHead s with lad := ad, ln := L.length, lc := cap } :=
            ⟨blk_kp HP18.out.2.out k19 (fun h => by have := (hown _ h).1; omega), blk_kp HP18.out.2.rd k19 (fun h => by have := (hown _ h).1; omega), blk_kp HP18.out.2.doc k19 (fun h => hne2 h), HP18.out.2.below.trans (k19.toBelow HP18.out.2.below.size (fun i hi => by have := (hown i hi).1; omega))⟩
          have k20 : Kp (fun k => k = w.heap.size + 2) w19 (w19.setCell ⟨w.heap.size + 2, 15, none⟩ (.slice ao8 (L ++ [(A.1, B.1, C.1)]).length cap8)) := (Kp.refl (fun k => k = w.heap.size + 2) w19).setCell (p := ⟨w.heap.size + 2, 15, none⟩) (.inl rfl) _
          have hd20 := hd19.put 15 (.slice ao8 (L ++ [(A.1, B.1, C.1)]).length cap8) (d' := { dHead s with lad := ao8, ln := (L ++ [(A.1, B.1, C.1)]).length, lc := cap8 }) rfl
          have ho20 : OwnT _ (w.heap.size + 3) (.slice ao8 (L ++ [(A.1, B.1, C.1)]).length cap8) (L ++ [(A.1, B.1, C.1)]) := OwnL.kp ho19 k20 (fun g hg => by have := (OwnL.lt ho19 g hg).1; omega)
          have HF : Hid (RgS w (dHead s) (L ++ [(A.1, B.1, C.1)]) C.2 (w19.setCell ⟨w.heap.size + 2, 15, none⟩ (.slice ao8 (L ++ [(A.1, B.1, C.1)]).length cap8))) := Lib.hid ⟨ao8, cap8, ho20, hd20⟩
          have hll : (L ++ [(A.1, B.1, C.1)]).length = L.length + 1 := by rw [List.length_append]; rfl
          clear ho19 hg19 hv19 hown k19 hd19 k20 hd20 ho20 c15 f15 x0 x1 x2
          go_wp2_with fail
          refine ⟨⟨k + 1, hlt, rfl, ?_⟩, ?_⟩
          · rw [HT1.out, HT2.out, ← hll]
            exact HF.out
          · show n - ((k : Int) + 1).toNat < n - (k : Int).toNat
            omega
        case neg =>
          obtain rfl : k = n := by omega
          have HIx := Lib.hid HI.out
          clear HI
          go_wp2_with fail
          go_meet
          rw [HRd.out]
          obtain ⟨ad, cap, ho, hd⟩ := HIx.out.ex
          exact ⟨_, hd, fun k => if k = 5 then ad else none, fun k => if k = 5 then cap else 0, rfl, own_none rfl rfl rfl rfl rfl _ _ (fun k hk => ⟨if_neg (by omega), if_neg (by omega)⟩), ho⟩
    by_cases k3 : (rA s).1 = 3
    case pos =>
      have b1 : ((rA s).1 == 1) = false := beq_eq_false_iff_ne.2 (by omega)
      have b2 : ((rA s).1 == 2) = false := beq_eq_false_iff_ne.2 (by omega)
      have b3 : ((rA s).1 == 3) = true := beq_iff_eq.2 k3
      have b4 : ((rA s).1 == 4) = false := beq_eq_false_iff_ne.2 (by omega)
      obtain ⟨y1, y2, y3, y4⟩ := sn_sizes (rC s).2
      have hRd : RdAll s w = fun wx => ∃ d', DcR w wx (sn3 (rC s).2).2 d' ∧ DocOwn wx (w.heap.size + 3) d' { headP s with of := (ts1 (rC s).2).1, hash := (ts2 (rC s).2).1, pO := (sn1 (rC s).2).1, pS := (sn2 (rC s).2).1, pR := (sn3 (rC s).2).1 } := by
        funext wx
        unfold RdAll
        rw [(decB3 k3).1, (decB3 k3).2]
      have HRd := Lib.hid hRd
      have E1 : Hid (rNum (rC s).2 2 = ts1 (rC s).2) := Lib.hid rfl
      have E2 : Hid (rRaw (ts1 (rC s).2).2 32 = ts2 (rC s).2) := Lib.hid rfl
      have E3 : Hid (rTxt (ts2 (rC s).2).2 64 = sn1 (rC s).2) := Lib.hid rfl
      have E4 : Hid (rNum (sn1 (rC s).2).2 2 = sn2 (rC s).2) := Lib.hid rfl
      have E5 : Hid (rRaw (sn2 (rC s).2).2 32 = sn3 (rC s).2) := Lib.hid rfl
      have hts1 : (ts1 (rC s).2).2.1.size ≤ (rC s).2.1.size := (rRaw_size (rC s).2 2).2
      clear k1 k2 k3 hk hRd HF0
      generalize sn3 (rC s).2 = F5 at *
      generalize sn2 (rC s).2 = F4 at *
      generalize sn1 (rC s).2 = F3 at *
      generalize ts2 (rC s).2 = F2 at *
      generalize ts1 (rC s).2 = F1 at *
      go_wp2_with fail
      have h3 := qnum_any (w.heap.size + 1) (rC s).2 2 w10 (by decide) (by omega) HW9.out.rd
      rw [qNum_small _ (by decide), show ((2 : Nat) : Int) = 2 from rfl, E1.out] at h3
      refine h3.mono ?_
      rintro e w11 ⟨rfl, k11⟩
      have H11 := HW9.out.read k11
      have c1 := cell_of_blk H11.doc 19 (v := .int .i64 0) rfl
      have f1 := free_of_blk H11.doc 19
      have HW11 := Lib.hid (H11.put 19 (.int .i64 F1.1) (d' := { dHead s with of := F1.1 }) rfl)
      clear h3 k11 H11 HW9 E1
      go_wp2_with fail
      clear c1 f1
      generalize w11.setCell ⟨w.heap.size + 2, 19, none⟩ (.int .i64 F1.1) = w12 at HW11 ⊢
      have h3 := qraw_any (w.heap.size + 1) F1.2 32 w12 (by omega) HW11.out.rd
      rw [E2.out] at h3
      refine h3.mono ?_
      rintro e w13 ⟨rfl, k13⟩
      have H13 := HW11.out.read k13
      have c1 := cell_of_blk H13.doc 20 (v := .string ⟨#[]⟩) rfl
      have f1 := free_of_blk H13.doc 20
      have HW13 := Lib.hid (H13.put 20 (.string F2.1) (d' := { dHead s with of := F1.1, hash := F2.1 }) rfl)
      clear h3 k13 H13 HW11 E2
      go_wp2_with fail
      clear c1 f1
      generalize w13.setCell ⟨w.heap.size + 2, 20, none⟩ (.string F2.1) = w14 at HW13 ⊢
      have h3 := qtxt_any (w.heap.size + 1) F2.2 64 w14 (by decide) (by omega) HW13.out.rd
      rw [E3.out] at h3
      refine h3.mono ?_
      rintro e w15 ⟨rfl, k15⟩
      have H15 := HW13.out.read k15
      have c1 := cell_of_blk H15.doc 16 (v := .string ⟨#[]⟩) rfl
      have f1 := free_of_blk H15.doc 16
      have HW15 := Lib.hid (H15.put 16 (.string F3.1) (d' := { dHead s with of := F1.1, hash := F2.1, pO := F3.1 }) rfl)
      clear h3 k15 H15 HW13 E3
      go_wp2_with fail
      clear c1 f1
      generalize w15.setCell ⟨w.heap.size + 2, 16, none⟩ (.string F3.1) = w16 at HW15 ⊢
      have h3 := qnum_any (w.heap.size + 1) F3.2 2 w16 (by decide) (by omega) HW15.out.rd
      rw [qNum_small _ (by decide), show ((2 : Nat) : Int) = 2 from rfl, E4.out] at h3
      refine h3.mono ?_
      rintro e w17 ⟨rfl, k17⟩
      have H17 := HW15.out.read k17
      have c1 := cell_of_blk H17.doc 17 (v := .int .i64 0) rfl
      have f1 := free_of_blk H17.doc 17
      have HW17 := Lib.hid (H17.put 17 (.int .i64 F4.1) (d' := { dHead s with of := F1.1, hash := F2.1, pO := F3.1, pS := F4.1 }) rfl)
      clear h3 k17 H17 HW15 E4
      go_wp2_with fail
      clear c1 f1
      generalize w17.setCell ⟨w.heap.size + 2, 17, none⟩ (.int .i64 F4.1) = w18 at HW17 ⊢
      have h3 := qraw_any (w.heap.size + 1) F4.2 32 w18 (by omega) HW17.out.rd
      rw [E5.out] at h3
      refine h3.mono ?_
      rintro e w19 ⟨rfl, k19⟩
      have H19 := HW17.out.read k19
      have c1 := cell_of_blk H19.doc 18 (v := .string ⟨#[]⟩) rfl
      have f1 := free_of_blk H19.doc 18
      have HW19 := Lib.hid (H19.put 18 (.string F5.1) (d' := { dHead s with of := F1.1, hash := F2.1, pO := F3.1, pS := F4.1, pR := F5.1 }) rfl)
      clear h3 k19 H19 HW17 E5
      go_wp2_with fail
      go_meet
      rw [HRd.out]
      exact ⟨_, HW19.out, fun _ => none, fun _ => 0, rfl, own_none rfl rfl rfl rfl rfl _ _ (fun _ _ => ⟨rfl, rfl⟩), ownL_nil _ _⟩
    have k4 : (rA s).1 = 4 := by omega
    have b1 : ((rA s).1 == 1) = false := beq_eq_false_iff_ne.2 (by omega)
    have b2 : ((rA s).1 == 2) = false := beq_eq_false_iff_ne.2 (by omega)
    have b3 : ((rA s).1 == 3) = false := beq_eq_false_iff_ne.2 (by omega)
    have b4 : ((rA s).1 == 4) = true := beq_iff_eq.2 k4
    have hRd : RdAll s w = fun wx => ∃ d', DcR w wx (ts2 (rC s).2).2 d' ∧ DocOwn wx (w.heap.size + 3) d' { headP s with of := (ts1 (rC s).2).1, hash := (ts2 (rC s).2).1 } := by
      funext wx
      unfold RdAll
      rw [(decB4 k4).1, (decB4 k4).2]
    have HRd := Lib.hid hRd
    have E1 : Hid (rNum (rC s).2 2 = ts1 (rC s).2) := Lib.hid rfl
    have E2 : Hid (rRaw (ts1 (rC s).2).2 32 = ts2 (rC s).2) := Lib.hid rfl
    have hts1 : (ts1 (rC s).2).2.1.size ≤ (rC s).2.1.size := (rRaw_size (rC s).2 2).2
    clear k1 k2 k3 k4 hk hRd HF0
    generalize ts2 (rC s).2 = F2 at *
    generalize ts1 (rC s).2 = F1 at *
    go_wp2_with fail
    have h3 := qnum_any (w.heap.size + 1) (rC s).2 2 w10 (by decide) (by omega) HW9.out.rd
    rw [qNum_small _ (by decide), show ((2 : Nat) : Int) = 2 from rfl, E1.out] at h3
    refine h3.mono ?_
    rintro e w11 ⟨rfl, k11⟩
    have H11 := HW9.out.read k11
    have c1 := cell_of_blk H11.doc 19 (v := .int .i64 0) rfl
    have f1 := free_of_blk H11.doc 19
    have HW11 := Lib.hid (H11.put 19 (.int .i64 F1.1) (d' := { dHead s with of := F1.1 }) rfl)
    clear h3 k11 H11 HW9 E1
    go_wp2_with fail
    clear c1 f1
    generalize w11.setCell ⟨w.heap.size + 2, 19, none⟩ (.int .i64 F1.1) = w12 at HW11 ⊢
    have h3 := qraw_any (w.heap.size + 1) F1.2 32 w12 (by omega) HW11.out.rd
    rw [E2.out] at h3
    refine h3.mono ?_
    rintro e w13 ⟨rfl, k13⟩
    have H13 := HW11.out.read k13
    have c1 := cell_of_blk H13.doc 20 (v := .string ⟨#[]⟩) rfl
    have f1 := free_of_blk H13.doc 20
    have HW13 := Lib.hid (H13.put 20 (.string F2.1) (d' := { dHead s with of := F1.1, hash := F2.1 }) rfl)
    clear h3 k13 H13 HW11 E2
    go_wp2_with fail
    go_meet
    rw [HRd.out]
    exact ⟨_, HW13.out, fun _ => none, fun _ => 0, rfl, own_none rfl rfl rfl rfl rfl _ _ (fun _ _ => ⟨rfl, rfl⟩), ownL_nil _ _⟩
  case rest =>
  obtain ⟨d', H11, hown⟩ := hcut
  have HW11 := Lib.hid H11
  have HO11 := Lib.hid hown
  clear H11 hown HW9
  generalize decB s = Db at *
  go_wp2_with fail
  refine (qend_any (w.heap.size + 1) Db.2 wc (by omega) HW11.out.rd).mono ?_
  rintro e w13 ⟨rfl, k13⟩
  have HO13 := Lib.hid (HO11.out.kp k13.2 (fun g hg hx => by omega))
  have HW13 := Lib.hid (HW11.out.read k13)
  clear k13 HO11 HW11
  generalize rEnd Db.2 = r5 at HDd HW13 ⊢
  by_cases h0 : r5.2 = 0
  case neg =>
    have b1 : (r5.2 == 0) = false := beq_eq_false_iff_ne.2 h0
    have b2 : (r5.2 != 0) = true := by rw [bne, b1]; rfl
    obtain rfl : Dd = (pz, 3) := by rw [HDd.out, if_pos (.inl h0)]
    have HD := Lib.hid (doc_setRow HW13.out.out dz)
    clear h0
    go_wp2_with (first | refine wpList_docst rfl _ _ rfl w.heap.size dz dz rfl rfl HW13.out.out ?_ | fail)
    refine doc_ret _ _ w.heap.size dz 3 HD.out.1 rfl rfl rfl rfl ?_
    exact ⟨dz, rfl, doc_none, HW13.out.below.trans (HD.out.2.toBelow HW13.out.below.size (fun i hi => by omega))⟩
  case pos =>
    have b1 : (r5.2 == 0) = true := beq_iff_eq.2 h0
    have b2 : (r5.2 != 0) = false := by rw [bne, b1]; rfl
    have HCC := Lib.hid (HCk.out d' w13 HW13.out.below HO13.out)
    clear HCk
    generalize chkP Db.1 = ck at HCC HDd
    go_wp2_with (first | refine wpList_docg rfl _ rfl (w.heap.size + 2) d' rfl HW13.out.doc ?_ | fail)
    refine HCC.out.mono ?_
    rintro e w14 ⟨rfl, hb14⟩
    have HW14 := Lib.hid (HW13.out.later hb14)
    have HO14 := Lib.hid (HO13.out.below hb14)
    clear hb14 HW13 HCC HO13
    by_cases hc0 : ck = 0
    case neg =>
      have b3 : (ck == 0) = false := beq_eq_false_iff_ne.2 hc0
      have b4 : (ck != 0) = true := by rw [bne, b3]; rfl
      obtain rfl : Dd = (pz, 3) := by rw [HDd.out, if_pos (.inr hc0)]
      have HD := Lib.hid (doc_setRow HW14.out.out dz)
      clear h0 hc0
      go_wp2_with (first | refine wpList_docst rfl _ _ rfl w.heap.size dz dz rfl rfl HW14.out.out ?_ | fail)
      refine doc_ret _ _ w.heap.size dz 3 HD.out.1 rfl rfl rfl rfl ?_
      exact ⟨dz, rfl, doc_none, HW14.out.below.trans (HD.out.2.toBelow HW14.out.below.size (fun i hi => by omega))⟩
    case pos =>
      have b3 : (ck == 0) = true := beq_iff_eq.2 hc0
      have b4 : (ck != 0) = false := by rw [bne, b3]; rfl
      obtain rfl : Dd = (Db.1, 0) := by rw [HDd.out, if_neg (by rintro (h | h); exact h h0; exact h hc0)]
      have HD := Lib.hid (doc_setRow HW14.out.out d')
      have HOZ := Lib.hid ((HO14.out.kp HD.out.2 (fun g hg hx => by omega)).base (base' := w.heap.size) (by omega))
      clear h0 hc0
      go_wp2_with (first | refine wpList_doc rfl _ rfl (w.heap.size + 2) d' rfl HW14.out.doc ?_ | refine wpList_docst rfl _ _ rfl w.heap.size dz d' rfl rfl HW14.out.out ?_ | fail)
      refine doc_ret _ _ w.heap.size d' 0 HD.out.1 rfl rfl rfl rfl ?_
      exact ⟨d', rfl, HOZ.out, HW14.out.below.trans (HD.out.2.toBelow HW14.out.below.size (fun i hi => by omega))⟩
end Go.Proofs.YtmejjphliaiamaaGreatDoor
