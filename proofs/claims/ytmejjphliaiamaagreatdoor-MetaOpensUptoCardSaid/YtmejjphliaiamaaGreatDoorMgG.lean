import Derived.Test.YtmejjphliaiamaaGreatDoorMgC
import Derived.Test.YtmejjphliaiamaaGreatDoorMfQ
import Derived.Test.YtmejjphliaiamaaGreatDoorMeV
import Derived.Test.YtmejjphliaiamaaGreatDoorMfV
import Derived.Deep.DeepCutAuto
set_option linter.unusedVariables false
set_option linter.unusedSimpArgs false
namespace Go.Proofs.YtmejjphliaiamaaGreatDoor
open Go Go.RowKit Go.Lib Go.Sort

/-! ### the document's answer: a set that is zero; a root's fields; targets -/
theorem isEmp (x : ByteArray) : x.toList.isEmpty = decide (x = ⟨#[]⟩) := by
  by_cases h : x = ⟨#[]⟩
  · rw [decide_eq_true h, h]; exact eq_emp.2
  · rw [decide_eq_false h]; exact (ne_emp h).2
set_option maxRecDepth 100000 in
theorem zset_any (s : SV) (w : World) : Calls Tryz.prog 126 #[.agg #[.slice s.ad s.n s.c, .int .i64 s.need]] w fun e w' => e = .returned (.bool (zeroS s)) ∧ Below w.heap.size w w' := by
  have hB : ∀ o, Below w.heap.size w (w.alloc o) := fun o => (Below.refl _ w).alloc (Nat.le_refl _) o
  obtain ⟨R, hR⟩ : ∃ R, R = zeroS s := ⟨_, rfl⟩
  rw [← hR]
  unfold zeroS at hR
  by_cases h1 : s.n = 0
  · have b1 : ((s.n : Int) == 0) = true := beq_iff_eq.2 (by omega)
    by_cases h2 : s.need = 0
    · have b2 : (s.need == 0) = true := beq_iff_eq.2 h2
      have HX : Hid (R = true) := Lib.hid (by rw [hR, decide_eq_true h1, decide_eq_true h2]; rfl)
      clear hR h1 h2
      go_enter Tryz.func126, Tryz.ntmps126
      go_wp2_with fail
      go_ret
      rw [HX.out]
      exact ⟨rfl, hB _⟩
    · have b2 : (s.need == 0) = false := beq_eq_false_iff_ne.2 h2
      have HX : Hid (R = false) := Lib.hid (by rw [hR, decide_eq_false h2, Bool.and_false])
      clear hR h1 h2
      go_enter Tryz.func126, Tryz.ntmps126
      go_wp2_with fail
      go_ret
      rw [HX.out]
      exact ⟨rfl, hB _⟩
  · have b1 : ((s.n : Int) == 0) = false := beq_eq_false_iff_ne.2 (by omega)
    have HX : Hid (R = false) := Lib.hid (by rw [hR, decide_eq_false h1]; rfl)
    clear hR h1
    go_enter Tryz.func126, Tryz.ntmps126
    go_wp2_with fail
    go_ret
    rw [HX.out]
    exact ⟨rfl, hB _⟩
def RrRel (SL : List SetT) (w : World) (i : Value) (wr : World) : Prop := ∃ k : Nat, k ≤ 4 ∧ i = .int .i64 k ∧ (SL.take k).all setGood = true ∧ Below w.heap.size w wr
def rootT (d : DV) (SL : List SetT) : Bool := SL.all setGood && (decide (d.log.size = 32) && origG d.org)
set_option maxRecDepth 100000 in
set_option maxHeartbeats 1000000 in
theorem rroot_t (d : DV) (SL : List SetT) (w : World) (hS : SetsM w d SL) (ho : d.org.size ≤ 9223372036854775807) : Calls Tryz.prog 72 #[docV d, .bool true] w fun e w' => e = .returned (.bool (rootT d SL)) ∧ Below w.heap.size w w' := by
  have hd : DocAt (w.alloc (.cells (docC d) 30)) w.heap.size d := blk_new _ _
  have hB : Below w.heap.size w (w.alloc (.cells (docC d) 30)) := (Below.refl _ w).alloc (Nat.le_refl _) _
  obtain ⟨w1, hw1⟩ : ∃ w1, w1 = w.alloc (.cells (docC d) 30) := ⟨_, rfl⟩
  rw [← hw1] at hd hB
  have HD := Lib.hid hd
  have HB := Lib.hid hB
  have HS := Lib.hid (hS.below hB)
  have h5 : SL.length = 5 := hS.1
  have HO := Lib.hid (fun W => rorigin_any d.org W ho)
  obtain ⟨R, hR⟩ : ∃ R, R = rootT d SL := ⟨_, rfl⟩
  rw [← hR]
  unfold rootT at hR
  have HR := Lib.hid hR
  have hbad : ∀ S ∈ SL, setGood S = false → R = false := fun S hm h => by
    rw [hR]
    have : SL.all setGood = false := by
      rw [Bool.eq_false_iff]
      intro h2
      have := List.all_eq_true.1 h2 S hm
      rw [h] at this
      cases this
    rw [this]
    rfl
  have HBad := Lib.hid hbad
  unfold docV
  clear hd hB hS hR hbad
  go_enter Tryz.func72, Tryz.ntmps72
  go_wp2_with fail
  rw [← hw1]
  clear hw1
  go_loopw [5] (fun i wr => RrRel SL w1 i wr) (fun i _ => 4 - (intOf i).toNat)
  case atStart => exact ⟨0, Nat.zero_le _, rfl, rfl, Below.refl _ _⟩
  case round =>
    obtain ⟨k, hk, rfl, ha, hb⟩ := hrel
    have HA := Lib.hid ha
    have HBr := Lib.hid hb
    have HDr := Lib.hid (HD.out.later hb)
    have HBw := Lib.hid (HB.out.trans (hb.mono HB.out.size))
    have HSr := Lib.hid (HS.out.below hb)
    clear ha hb
    by_cases hlt : k < 4
    case pos =>
      have hl5 : k < SL.length := by omega
      obtain ⟨s, hs, c1, c2⟩ := setA_at d w.heap.size wr HDr.out k hlt
      obtain ⟨hsm, hsl⟩ := HSr.out.2 k s SL[k] hs (List.getElem?_eq_getElem hl5)
      have HC := rqcheck_any s SL[k] wr hsm hsl
      have htk : SL.take (k + 1) = SL.take k ++ [SL[k]] := List.take_succ_eq_append_getElem hl5
      have hmem : SL[k] ∈ SL := List.getElem_mem hl5
      generalize SL[k] = S at HC htk hmem
      have hno : setGood S = false → R = false := HBad.out S hmem
      have hyes : setGood S = true → (SL.take (k + 1)).all setGood = true := fun h => by rw [htk, List.all_append, HA.out]; simp [h]
      have HNo := Lib.hid hno
      have HYes := Lib.hid hyes
      have hk0 : (0 : Int) ≤ (k : Int) := Int.natCast_nonneg _
      have hk1 : (k : Int) < 4 := by omega
      generalize setGood S = g at HC HNo HYes
      have HCs := Lib.hid HC
      clear HC hno hyes htk hmem hsm hsl hs
      go_wp2_with fail
      refine HCs.out.mono ?_
      rintro e w2 ⟨rfl, hb2⟩
      have H2 := Lib.hid (HBr.out.trans (hb2.mono HBr.out.size))
      have H2w := Lib.hid (HBw.out.trans (hb2.mono HBw.out.size))
      clear hb2 c1 c2
      cases g with
      | false =>
        have HX := Lib.hid (HNo.out rfl)
        have ee : chkE false = 1 := rfl
        rw [ee]
        go_wp2_with fail
        go_ret
        rw [HX.out]
        exact ⟨rfl, H2w.out⟩
      | true =>
        have HX := Lib.hid (HYes.out rfl)
        have ee : chkE true = 0 := rfl
        rw [ee]
        go_wp2_with fail
        refine ⟨⟨k + 1, hlt, rfl, HX.out, H2.out⟩, ?_⟩
        show 4 - ((k : Int) + 1).toNat < 4 - (k : Int).toNat
        omega
    case neg =>
      obtain rfl : k = 4 := by omega
      have hl4 : 4 < SL.length := by omega
      obtain ⟨s, hs, c1, c2⟩ := setL_at d w.heap.size wr HDr.out 4 (by decide)
      obtain ⟨hsm, hsl⟩ := HSr.out.2 4 s SL[4] hs (List.getElem?_eq_getElem hl4)
      have HC := rqcheck_any s SL[4] wr hsm hsl
      have htk : SL = SL.take 4 ++ [SL[4]] := by
        have h := List.take_succ_eq_append_getElem hl4
        rwa [List.take_of_length_le (by omega)] at h
      have hmem : SL[4] ∈ SL := List.getElem_mem hl4
      generalize SL[4] = S at HC htk hmem
      have hno : setGood S = false → R = false := HBad.out S hmem
      have hyes : setGood S = true → R = (decide (d.log.size = 32) && origG d.org) := fun h => by
        rw [HR.out]
        have : SL.all setGood = true := by rw [htk, List.all_append, HA.out]; simp [h]
        rw [this]
        rfl
      have HNo := Lib.hid hno
      have HYes := Lib.hid hyes
      generalize setGood S = g at HC HNo HYes
      have HCs := Lib.hid HC
      clear HC hno hyes htk hmem hsm hsl hs
      have c1' : wr.cell? ⟨w.heap.size, 11, none⟩ = some (.slice s.ad s.n s.c) := c1
      have c2' : wr.cell? ⟨w.heap.size, 12, none⟩ = some (.int .i64 s.need) := c2
      clear c1 c2
      go_wp2_with fail
      refine HCs.out.mono ?_
      rintro e w2 ⟨rfl, hb2⟩
      have hd2 := HDr.out.later hb2
      have c13 := cell_of_blk hd2 13 (v := .string d.log) rfl
      have c14 := cell_of_blk hd2 14 (v := .string d.org) rfl
      have H2w := Lib.hid (HBw.out.trans (hb2.mono HBw.out.size))
      clear hb2 c1' c2' hd2
      cases g with
      | false =>
        have HX := Lib.hid (HNo.out rfl)
        have ee : chkE false = 1 := rfl
        rw [ee]
        go_wp2_with fail
        go_ret
        rw [HX.out]
        exact ⟨rfl, H2w.out⟩
      | true =>
        have HX := Lib.hid (HYes.out rfl)
        have ee : chkE true = 0 := rfl
        rw [ee]
        by_cases h32 : d.log.size = 32
        · have b1 : ((d.log.size : Int) == 32) = true := beq_iff_eq.2 (by omega)
          have HY : Hid (R = origG d.org) := Lib.hid (by rw [HX.out, decide_eq_true h32]; rfl)
          clear h32
          go_wp2_with fail
          refine (HO.out w2).mono ?_
          rintro e w3 ⟨rfl, rfl⟩
          go_wp2_with fail
          go_ret
          rw [HY.out]
          exact ⟨rfl, H2w.out⟩
        · have b1 : ((d.log.size : Int) == 32) = false := beq_eq_false_iff_ne.2 (by omega)
          have HY : Hid (R = false) := Lib.hid (by rw [HX.out, decide_eq_false h32]; rfl)
          clear h32
          go_wp2_with fail
          go_ret
          rw [HY.out]
          exact ⟨rfl, H2w.out⟩
def RfRel (d : DV) (w : World) (i : Value) (wr : World) : Prop := ∃ k : Nat, k ≤ 4 ∧ i = .int .i64 k ∧ ((setL d).take k).all zeroS = true ∧ Below w.heap.size w wr
def rootF (d : DV) : Bool := (setL d).all zeroS && (decide (d.log = ⟨#[]⟩) && decide (d.org = ⟨#[]⟩))
set_option maxRecDepth 100000 in
set_option maxHeartbeats 1000000 in
theorem rroot_f (d : DV) (w : World) : Calls Tryz.prog 72 #[docV d, .bool false] w fun e w' => e = .returned (.bool (rootF d)) ∧ Below w.heap.size w w' := by
  have hd : DocAt (w.alloc (.cells (docC d) 30)) w.heap.size d := blk_new _ _
  have hB : Below w.heap.size w (w.alloc (.cells (docC d) 30)) := (Below.refl _ w).alloc (Nat.le_refl _) _
  obtain ⟨w1, hw1⟩ : ∃ w1, w1 = w.alloc (.cells (docC d) 30) := ⟨_, rfl⟩
  rw [← hw1] at hd hB
  have HD := Lib.hid hd
  have HB := Lib.hid hB
  obtain ⟨R, hR⟩ : ∃ R, R = rootF d := ⟨_, rfl⟩
  rw [← hR]
  unfold rootF at hR
  have HR := Lib.hid hR
  have hbad : ∀ S ∈ setL d, zeroS S = false → R = false := fun S hm h => by
    rw [hR]
    have : (setL d).all zeroS = false := by
      rw [Bool.eq_false_iff]
      intro h2
      have := List.all_eq_true.1 h2 S hm
      rw [h] at this
      cases this
    rw [this]
    rfl
  have HBad := Lib.hid hbad
  unfold docV
  clear hd hB hR hbad
  go_enter Tryz.func72, Tryz.ntmps72
  go_wp2_with fail
  rw [← hw1]
  clear hw1
  go_loopw [5] (fun i wr => RfRel d w1 i wr) (fun i _ => 4 - (intOf i).toNat)
  case atStart => exact ⟨0, Nat.zero_le _, rfl, rfl, Below.refl _ _⟩
  case round =>
    obtain ⟨k, hk, rfl, ha, hb⟩ := hrel
    have HA := Lib.hid ha
    have HBr := Lib.hid hb
    have HDr := Lib.hid (HD.out.later hb)
    have HBw := Lib.hid (HB.out.trans (hb.mono HB.out.size))
    clear ha hb
    by_cases hlt : k < 4
    case pos =>
      have hl5 : k < (setL d).length := by rw [setL_len]; omega
      obtain ⟨s, hs, c1, c2⟩ := setA_at d w.heap.size wr HDr.out k hlt
      have htk : (setL d).take (k + 1) = (setL d).take k ++ [s] := by
        rw [List.take_succ_eq_append_getElem hl5]
        rw [List.getElem?_eq_getElem hl5] at hs
        rw [Option.some.inj hs]
      have HC := zset_any s wr
      have hno : zeroS s = false → R = false := HBad.out s (List.mem_of_getElem? hs)
      have hyes : zeroS s = true → ((setL d).take (k + 1)).all zeroS = true := fun h => by rw [htk, List.all_append, HA.out]; simp [h]
      have HNo := Lib.hid hno
      have HYes := Lib.hid hyes
      have hk0 : (0 : Int) ≤ (k : Int) := Int.natCast_nonneg _
      have hk1 : (k : Int) < 4 := by omega
      generalize zeroS s = g at HC HNo HYes
      have HCs := Lib.hid HC
      clear HC hno hyes htk hs
      go_wp2_with fail
      refine HCs.out.mono ?_
      rintro e w2 ⟨rfl, hb2⟩
      have H2 := Lib.hid (HBr.out.trans (hb2.mono HBr.out.size))
      have H2w := Lib.hid (HBw.out.trans (hb2.mono HBw.out.size))
      clear hb2 c1 c2
      cases g with
      | false =>
        have HX := Lib.hid (HNo.out rfl)
        go_wp2_with fail
        go_ret
        rw [HX.out]
        exact ⟨rfl, H2w.out⟩
      | true =>
        have HX := Lib.hid (HYes.out rfl)
        go_wp2_with fail
        refine ⟨⟨k + 1, hlt, rfl, HX.out, H2.out⟩, ?_⟩
        show 4 - ((k : Int) + 1).toNat < 4 - (k : Int).toNat
        omega
    case neg =>
      obtain rfl : k = 4 := by omega
      obtain ⟨s, hs, c1, c2⟩ := setL_at d w.heap.size wr HDr.out 4 (by decide)
      have hl4 : 4 < (setL d).length := by rw [setL_len]; decide
      have htk : setL d = (setL d).take 4 ++ [s] := by
        have h := List.take_succ_eq_append_getElem hl4
        rw [List.getElem?_eq_getElem hl4] at hs
        rw [Option.some.inj hs] at h
        rwa [List.take_of_length_le (by rw [setL_len]; decide)] at h
      have HC := zset_any s wr
      have hno : zeroS s = false → R = false := HBad.out s (List.mem_of_getElem? hs)
      have hyes : zeroS s = true → R = (decide (d.log = ⟨#[]⟩) && decide (d.org = ⟨#[]⟩)) := fun h => by
        rw [HR.out]
        have : (setL d).all zeroS = true := by rw [htk, List.all_append, HA.out]; simp [h]
        rw [this]
        rfl
      have HNo := Lib.hid hno
      have HYes := Lib.hid hyes
      generalize zeroS s = g at HC HNo HYes
      have HCs := Lib.hid HC
      clear HC hno hyes htk hs
      have c1' : wr.cell? ⟨w.heap.size, 11, none⟩ = some (.slice s.ad s.n s.c) := c1
      have c2' : wr.cell? ⟨w.heap.size, 12, none⟩ = some (.int .i64 s.need) := c2
      clear c1 c2
      go_wp2_with fail
      refine HCs.out.mono ?_
      rintro e w2 ⟨rfl, hb2⟩
      have hd2 := HDr.out.later hb2
      have c13 := cell_of_blk hd2 13 (v := .string d.log) rfl
      have c14 := cell_of_blk hd2 14 (v := .string d.org) rfl
      have H2w := Lib.hid (HBw.out.trans (hb2.mono HBw.out.size))
      clear hb2 c1' c2' hd2
      cases g with
      | false =>
        have HX := Lib.hid (HNo.out rfl)
        go_wp2_with fail
        go_ret
        rw [HX.out]
        exact ⟨rfl, H2w.out⟩
      | true =>
        have HX := Lib.hid (HYes.out rfl)
        have hl := toList_eqbV d.log ⟨#[]⟩
        have hg := toList_eqbV d.org ⟨#[]⟩
        have hli := isEmp d.log
        have hgi := isEmp d.org
        by_cases h1 : d.log = ⟨#[]⟩
        · have HY : Hid (R = decide (d.org = ⟨#[]⟩)) := Lib.hid (by rw [HX.out, decide_eq_true h1]; rfl)
          rw [decide_eq_true h1] at hl hli
          generalize decide (d.org = ⟨#[]⟩) = go at hg hgi HY
          clear h1
          go_wp2_with fail
          go_ret
          rw [HY.out]
          exact ⟨rfl, H2w.out⟩
        · have HY : Hid (R = false) := Lib.hid (by rw [HX.out, decide_eq_false h1]; rfl)
          rw [decide_eq_false h1] at hl hli
          clear h1
          go_wp2_with fail
          go_ret
          rw [HY.out]
          exact ⟨rfl, H2w.out⟩

/-! ### the document's answer: targets -/
def lastT (L : List TgtT) : Nat → Int
  | 0 => 0
  | k + 1 => (L.getD k (0, 0, ⟨#[]⟩)).1
def RtgRel (L : List TgtT) (w0 : World) (i : Value) (wr : World) : Prop := ∃ k : Nat, k ≤ L.length ∧ i = .int .i64 k ∧ tgsB 0 L = tgsB (lastT L k) (L.drop k) ∧ 0 ≤ lastT L k ∧ Below w0.heap.size w0 wr
set_option maxRecDepth 100000 in
set_option maxHeartbeats 1000000 in
theorem rlist_any (ad : Option Addr) (c : Nat) (L : List TgtT) (w : World) (hL : TgM w ad L) (hm : L.length ≤ 100000000) : Calls Tryz.prog 73 #[.slice ad L.length c] w fun e w' => e = .returned (.bool (goodTg L)) ∧ Below w.heap.size w w' := by
  have HL := Lib.hid hL
  obtain ⟨R, hR⟩ : ∃ R, R = goodTg L := ⟨_, rfl⟩
  rw [← hR]
  unfold goodTg at hR
  have HR := Lib.hid hR
  clear hR hL
  go_enter Tryz.func73, Tryz.ntmps73
  go_wp2_with fail
  go_loopw [3] (fun i wr => RtgRel L w i wr) (fun i _ => L.length - (intOf i).toNat)
  case atStart => exact ⟨0, Nat.zero_le _, rfl, rfl, Int.le_refl _, Below.refl _ _⟩
  case round =>
    obtain ⟨k, hk, rfl, hg, hl0, hb⟩ := hrel
    have HG := Lib.hid hg
    have HB := Lib.hid hb
    clear hg hb
    by_cases hlt : k < L.length
    case pos =>
      obtain ⟨pb, po, ea, s0, s1, s2⟩ := (HL.out.below HB.out) k L[k] (List.getElem?_eq_getElem hlt)
      have hdrop : L.drop k = L[k] :: L.drop (k + 1) := List.drop_eq_getElem_cons hlt
      have hnx : lastT L (k + 1) = L[k].1 := by show (L.getD k _).1 = _; rw [List.getD_eq_getElem?_getD, List.getElem?_eq_getElem hlt]; rfl
      have hprev : ∀ j, k = j + 1 → wr.cell? ⟨pb, po + j * 3, none⟩ = some (.int .i64 (lastT L k)) := by
        rintro j rfl
        have hj : j < L.length := by omega
        obtain ⟨pb2, po2, eb, t0, -, -⟩ := (HL.out.below HB.out) j L[j] (List.getElem?_eq_getElem hj)
        rw [ea] at eb
        cases eb
        have : lastT L (j + 1) = L[j].1 := by show (L.getD j _).1 = _; rw [List.getD_eq_getElem?_getD, List.getElem?_eq_getElem hj]; rfl
        rw [this]
        exact t0
      rw [ea]
      generalize L[k] = t at s0 s1 s2 hdrop hnx
      have hz0 : k = 0 → lastT L k = 0 := fun h => by subst h; rfl
      generalize hlast : lastT L k = last at HG hl0 hprev hz0
      have hgd : tgsB 0 L = (tgOk last t && tgsB t.1 (L.drop (k + 1))) := by rw [HG.out, hdrop]; rfl
      have hbad : tgOk last t = false → R = false := fun h => by rw [HR.out, hgd, h]; rfl
      have HBad := Lib.hid hbad
      have HGd := Lib.hid hgd
      have HNx := Lib.hid hnx
      have hk0 : (0 : Int) ≤ (k : Int) := Int.natCast_nonneg _
      have hk1 : (k : Int) < (L.length : Int) := by omega
      have hBn := fun o n => (⟨rfl, rfl, rfl, Nat.le_refl _, fun _ _ => rfl⟩ : Below (wr.alloc o).heap.size (wr.alloc o) ((wr.alloc o).drewN n))
      have HBn := Lib.hid (fun o n => (HB.out.alloc HB.out.size o).trans ((hBn o n).mono (HB.out.alloc HB.out.size o).size))
      clear hdrop hgd hbad ea hnx hlast hBn
      by_cases h1 : t.1 < 1
      · have HX := Lib.hid (HBad.out (decide_eq_false (fun h => by omega)))
        clear hprev hz0
        go_wp2_with fail
        go_big_quiet (fail)
        go_wp2_with fail
        go_ret
        rw [HX.out]
        exact ⟨rfl, HBn.out _ _⟩
      have d1 : decide (t.1 < 1) = false := decide_eq_false h1
      by_cases h2 : 255 < t.1
      · have HX := Lib.hid (HBad.out (decide_eq_false (fun h => by omega)))
        clear hprev hz0
        go_wp2_with fail
        go_big_quiet (fail)
        go_wp2_with fail
        go_ret
        rw [HX.out]
        exact ⟨rfl, HBn.out _ _⟩
      have d2 : decide (255 < t.1) = false := decide_eq_false h2
      by_cases h3 : t.2.1 < 0
      · have HX := Lib.hid (HBad.out (decide_eq_false (fun h => by omega)))
        clear hprev hz0
        go_wp2_with fail
        go_big_quiet (fail)
        go_wp2_with fail
        go_ret
        rw [HX.out]
        exact ⟨rfl, HBn.out _ _⟩
      have d3 : decide (t.2.1 < 0) = false := decide_eq_false h3
      by_cases h4 : 1024 ≤ t.2.1
      · have HX := Lib.hid (HBad.out (decide_eq_false (fun h => by omega)))
        clear hprev hz0
        go_wp2_with fail
        go_big_quiet (fail)
        go_wp2_with fail
        go_ret
        rw [HX.out]
        exact ⟨rfl, HBn.out _ _⟩
      have d4 : decide (1024 ≤ t.2.1) = false := decide_eq_false h4
      by_cases h5 : (t.2.2.size : Int) = 32
      case neg =>
        have b1 : ((t.2.2.size : Int) == 32) = false := beq_eq_false_iff_ne.2 h5
        have b2 : ((t.2.2.size : Int) != 32) = true := by rw [bne, b1]; rfl
        have HX := Lib.hid (HBad.out (decide_eq_false (fun h => by omega)))
        clear hprev hz0 h5
        go_wp2_with fail
        go_big_quiet (fail)
        go_wp2_with fail
        go_ret
        rw [HX.out]
        exact ⟨rfl, HBn.out _ _⟩
      case pos =>
        have b1 : ((t.2.2.size : Int) == 32) = true := beq_iff_eq.2 h5
        have b2 : ((t.2.2.size : Int) != 32) = false := by rw [bne, b1]; rfl
        by_cases hk00 : k = 0
        case pos =>
          have hlz := hz0 hk00
          have hz' : decide (0 < k) = false := decide_eq_false (by omega)
          have hok : tgOk last t = true := decide_eq_true ⟨by omega, by omega, by omega, by omega, by omega⟩
          have HX := Lib.hid (show tgsB 0 L = tgsB (lastT L (k + 1)) (L.drop (k + 1)) from by rw [HGd.out, hok, HNx.out]; rfl)
          have hpos : 0 ≤ lastT L (k + 1) := by rw [HNx.out]; omega
          clear hok h5 hprev hz0 hlz hk00
          go_wp2_with fail
          go_big_quiet (fail)
          go_wp2_with fail
          refine ⟨⟨k + 1, hlt, rfl, HX.out, hpos, HBn.out _ _⟩, ?_⟩
          show L.length - ((k : Int) + 1).toNat < L.length - (k : Int).toNat
          omega
        case neg =>
          obtain ⟨j, rfl⟩ : ∃ j, k = j + 1 := ⟨k - 1, by omega⟩
          have p0 := hprev j rfl
          have p0a := fun o => cell_alloc p0 o
          have hz' : decide (0 < j + 1) = true := decide_eq_true (by omega)
          have hsub : ((j + 1 : Nat) : Int) - 1 = (j : Int) := by omega
          have hwr : IntKind.i64.wrap (j : Int) = (j : Int) := IntWalk.i64_in _ (by omega)
          have hj1 : (j : Int) < (L.length : Int) := by omega
          have hj0 : (0 : Int) ≤ (j : Int) := Int.natCast_nonneg _
          by_cases h6 : t.1 ≤ last
          · have HX := Lib.hid (HBad.out (decide_eq_false (fun h => by omega)))
            clear hprev hz0 h5
            go_wp2_with fail
            go_big_quiet (fail)
            go_wp2_with fail
            go_ret
            rw [HX.out]
            exact ⟨rfl, HBn.out _ _⟩
          · have d6 : decide (t.1 ≤ last) = false := decide_eq_false h6
            have hok : tgOk last t = true := decide_eq_true ⟨by omega, by omega, by omega, by omega, by omega⟩
            have HX := Lib.hid (show tgsB 0 L = tgsB (lastT L (j + 1 + 1)) (L.drop (j + 1 + 1)) from by rw [HGd.out, hok, HNx.out]; rfl)
            have hpos : 0 ≤ lastT L (j + 1 + 1) := by rw [HNx.out]; omega
            clear hok h5 hprev hz0
            go_wp2_with fail
            go_big_quiet (fail)
            go_wp2_with fail
            refine ⟨⟨j + 1 + 1, hlt, rfl, HX.out, hpos, HBn.out _ _⟩, ?_⟩
            show L.length - (((j + 1 : Nat) : Int) + 1).toNat < L.length - ((j + 1 : Nat) : Int).toNat
            omega
    case neg =>
      obtain rfl : k = L.length := by omega
      have hall : tgsB 0 L = true := by rw [HG.out, List.drop_length]; rfl
      have hR : R = decide (L.length ≤ 64) := by rw [HR.out, hall]; rfl
      clear hall
      by_cases h64 : (L.length : Int) ≤ 64
      · have HX : Hid (R = true) := Lib.hid (by rw [hR]; exact decide_eq_true (by omega))
        clear hR
        go_wp2_with fail
        go_ret
        rw [HX.out]
        exact ⟨rfl, HB.out⟩
      · have HX : Hid (R = false) := Lib.hid (by rw [hR]; exact decide_eq_false (by omega))
        clear hR
        go_wp2_with fail
        go_ret
        rw [HX.out]
        exact ⟨rfl, HB.out⟩

/-! ### the document's answer: is a document good -/
def ok0 (d : DV) : Bool := decide (1 ≤ d.kind ∧ d.kind ≤ 4 ∧ 1 ≤ d.ver ∧ d.ver ≤ 65535 ∧ 0 ≤ d.exp ∧ d.exp ≤ 1099511627776)
def okR (d : DV) (SL : List SetT) : Bool := if d.kind = 1 then rootT d SL else rootF d
def okL (d : DV) (L : List TgtT) : Bool := if d.kind = 2 then goodTg L else decide (L.length = 0)
def okP (d : DV) : Bool := if d.kind = 3 then decide ((cpV d.pO d.pS d.pR).2 = 0) else pointZ d
def okH (d : DV) : Bool := if d.kind = 3 ∨ d.kind = 4 then tsGood d.of d.hash else decide (d.of = 0) && decide (d.hash = ⟨#[]⟩)
theorem dec_and {A B : Prop} [Decidable A] [Decidable B] : decide (A ∧ B) = (decide A && decide B) := by simp
theorem cp_log (o r : ByteArray) : decide ((cpV o 0 r).2 = 0) = (decide (r.size = 32) && origG o) := by
  have e : cpGood o 0 r = (origG o && decide (r.size = 32)) := by unfold cpGood; simp
  unfold cpV
  rw [e]
  cases origG o <;> cases decide (r.size = 32) <;> rfl
theorem chkP_ref (p : PD) : chkP p = chkE (ok0 (D0 p) && (okR (D0 p) p.S && (okL (D0 p) p.T && (okP (D0 p) && okH (D0 p))))) := by
  have hz : ∀ s : SetT, zeroS ⟨none, s.1.length, 0, s.2⟩ = (decide (s.1.length = 0) && decide (s.2 = 0)) := fun s => rfl
  by_cases hk : 1 ≤ p.kind ∧ p.kind ≤ 4
  · have h0 : ok0 (D0 p) = (decide (1 ≤ p.ver ∧ p.ver ≤ 65535) && decide (0 ≤ p.exp ∧ p.exp ≤ 1099511627776)) := by
      unfold ok0
      show decide (1 ≤ p.kind ∧ p.kind ≤ 4 ∧ 1 ≤ p.ver ∧ p.ver ≤ 65535 ∧ 0 ≤ p.exp ∧ p.exp ≤ 1099511627776) = _
      rw [← dec_and]
      refine decide_eq_decide.2 ⟨fun h => ⟨⟨h.2.2.1, h.2.2.2.1⟩, h.2.2.2.2⟩, fun h => ⟨hk.1, hk.2, h.1.1, h.1.2, h.2⟩⟩
    unfold chkP
    rw [if_pos hk, h0]
    unfold chkB
    congr 1
    show (decide (1 ≤ p.ver ∧ p.ver ≤ 65535) && (decide (0 ≤ p.exp ∧ p.exp ≤ 1099511627776) && (goodP p && emptyB (zeroK p.kind (D0 p))))) = _
    rw [Bool.and_assoc]
    congr 2
    unfold goodP zeroK okR okL okP okH
    show _ = ((if p.kind = 1 then _ else _) && ((if p.kind = 2 then _ else _) && ((if p.kind = 3 then _ else _) && (if p.kind = 3 ∨ p.kind = 4 then _ else _))))
    by_cases h1 : p.kind = 1
    · rw [if_pos h1, if_pos h1, if_pos h1, if_neg (show ¬ p.kind = 2 by omega), if_neg (show ¬ p.kind = 3 by omega), if_neg (show ¬ (p.kind = 3 ∨ p.kind = 4) by omega)]
      unfold rootGood rootT
      rw [cp_log]
      have e : emptyB (d1Z (D0 p)) = (decide (p.T.length = 0) && (decide (p.of = 0) && (decide (p.hash = ⟨#[]⟩) && pointZ (D0 p)))) := rfl
      rw [e]
      show ((decide (p.log.size = 32) && origG p.org && p.S.all setGood) && (decide (p.T.length = 0) && (decide (p.of = 0) && (decide (p.hash = ⟨#[]⟩) && pointZ (D0 p))))) = (p.S.all setGood && (decide (p.log.size = 32) && origG p.org) && (decide (p.T.length = 0) && (pointZ (D0 p) && (decide (p.of = 0) && decide (p.hash = ⟨#[]⟩)))))
      generalize decide (p.log.size = 32) = x1
      generalize origG p.org = x2
      generalize p.S.all setGood = x3
      generalize decide (p.T.length = 0) = x4
      generalize decide (p.of = 0) = x5
      generalize decide (p.hash = ⟨#[]⟩) = x6
      generalize pointZ (D0 p) = x7
      cases x1 <;> cases x2 <;> cases x3 <;> cases x4 <;> cases x5 <;> cases x6 <;> cases x7 <;> rfl
    · rw [if_neg h1, if_neg h1, if_neg h1]
      by_cases h2 : p.kind = 2
      · rw [if_pos h2, if_pos h2, if_pos h2, if_neg (show ¬ p.kind = 3 by omega), if_neg (show ¬ (p.kind = 3 ∨ p.kind = 4) by omega)]
        have e : emptyB { D0 p with lad := none, ln := 0, lc := 0 } = ((setL (D0 p)).all zeroS && (decide (p.log = ⟨#[]⟩) && (decide (p.org = ⟨#[]⟩) && (decide (p.of = 0) && (decide (p.hash = ⟨#[]⟩) && pointZ (D0 p)))))) := rfl
        rw [e]
        unfold rootF
        show _ = ((setL (D0 p)).all zeroS && (decide (p.log = ⟨#[]⟩) && decide (p.org = ⟨#[]⟩)) && (goodTg p.T && (pointZ (D0 p) && (decide (p.of = 0) && decide (p.hash = ⟨#[]⟩)))))
        generalize (setL (D0 p)).all zeroS = x1
        generalize decide (p.log = ⟨#[]⟩) = x2
        generalize decide (p.org = ⟨#[]⟩) = x3
        generalize goodTg p.T = x4
        generalize decide (p.of = 0) = x5
        generalize decide (p.hash = ⟨#[]⟩) = x6
        generalize pointZ (D0 p) = x7
        cases x1 <;> cases x2 <;> cases x3 <;> cases x4 <;> cases x5 <;> cases x6 <;> cases x7 <;> rfl
      · rw [if_neg h2, if_neg h2, if_neg h2]
        by_cases h3 : p.kind = 3
        · rw [if_pos h3, if_pos h3, if_pos h3, if_pos (show p.kind = 3 ∨ p.kind = 4 from .inl h3)]
          have e : emptyB (d3Z (D0 p)) = ((setL (D0 p)).all zeroS && (decide (p.log = ⟨#[]⟩) && (decide (p.org = ⟨#[]⟩) && decide (p.T.length = 0)))) := by
            show ((setL (D0 p)).all zeroS && (decide (p.log = ⟨#[]⟩) && (decide (p.org = ⟨#[]⟩) && (decide (p.T.length = 0) && true)))) = _
            rw [Bool.and_true]
          rw [e]
          unfold rootF snGood
          show (decide ((cpV p.pO p.pS p.pR).2 = 0) && tsGood p.of p.hash && _) = ((setL (D0 p)).all zeroS && (decide (p.log = ⟨#[]⟩) && decide (p.org = ⟨#[]⟩)) && (decide (p.T.length = 0) && (decide ((cpV p.pO p.pS p.pR).2 = 0) && tsGood p.of p.hash)))
          generalize (setL (D0 p)).all zeroS = x1
          generalize decide (p.log = ⟨#[]⟩) = x2
          generalize decide (p.org = ⟨#[]⟩) = x3
          generalize decide ((cpV p.pO p.pS p.pR).2 = 0) = x4
          generalize tsGood p.of p.hash = x5
          generalize decide (p.T.length = 0) = x6
          cases x1 <;> cases x2 <;> cases x3 <;> cases x4 <;> cases x5 <;> cases x6 <;> rfl
        · have h4 : p.kind = 4 := by omega
          rw [if_neg h3, if_neg h3, if_neg h3, if_pos (show p.kind = 3 ∨ p.kind = 4 from .inr h4)]
          have e : emptyB { D0 p with of := 0, hash := ⟨#[]⟩ } = ((setL (D0 p)).all zeroS && (decide (p.log = ⟨#[]⟩) && (decide (p.org = ⟨#[]⟩) && (decide (p.T.length = 0) && pointZ (D0 p))))) := rfl
          rw [e]
          unfold rootF
          show (tsGood p.of p.hash && _) = ((setL (D0 p)).all zeroS && (decide (p.log = ⟨#[]⟩) && decide (p.org = ⟨#[]⟩)) && (decide (p.T.length = 0) && (pointZ (D0 p) && tsGood p.of p.hash)))
          generalize (setL (D0 p)).all zeroS = x1
          generalize decide (p.log = ⟨#[]⟩) = x2
          generalize decide (p.org = ⟨#[]⟩) = x3
          generalize tsGood p.of p.hash = x5
          generalize decide (p.T.length = 0) = x6
          generalize pointZ (D0 p) = x7
          cases x1 <;> cases x2 <;> cases x3 <;> cases x5 <;> cases x6 <;> cases x7 <;> rfl
  · have h0 : ok0 (D0 p) = false := decide_eq_false (fun h => hk ⟨h.1, h.2.1⟩)
    unfold chkP
    rw [if_neg hk, h0]
    rfl

/-! ### the document's check, walked -/
set_option maxRecDepth 100000 in
set_option maxHeartbeats 2000000 in
theorem rcheck_any (d : DV) (SL : List SetT) (TL : List TgtT) (w : World) (hS : SetsM w d SL) (hn : d.ln = TL.length) (hT : TgM w d.lad TL) (hm : TL.length ≤ 100000000) (h1 : d.org.size ≤ 1000000000) (h2 : d.pO.size ≤ 1000000000) (h3 : d.pR.size ≤ 1000000000) (hV : VarsP w) :
    Calls Tryz.prog 25 #[docV d] w fun e w' => e = .returned (.int .i64 (chkE (ok0 d && (okR d SL && (okL d TL && (okP d && okH d)))))) ∧ Below w.heap.size w w' := by
  obtain ⟨R, hR⟩ : ∃ R, R = chkE (ok0 d && (okR d SL && (okL d TL && (okP d && okH d)))) := ⟨_, rfl⟩
  rw [← hR]
  have HR := Lib.hid hR
  clear hR
  have hd : DocAt (w.alloc (.cells (docC d) 30)) w.heap.size d := blk_new _ _
  have hB : Below w.heap.size w (w.alloc (.cells (docC d) 30)) := (Below.refl _ w).alloc (Nat.le_refl _) _
  obtain ⟨w1, hw1⟩ : ∃ w1, w1 = w.alloc (.cells (docC d) 30) := ⟨_, rfl⟩
  rw [← hw1] at hd hB
  have HD := Lib.hid hd
  have HB := Lib.hid hB
  have HRt := Lib.hid (fun W (hb : Below w.heap.size w W) => rroot_t d SL W (hS.below hb) (by omega))
  have HRf := Lib.hid (fun W => rroot_f d W)
  have HLi := Lib.hid (fun W (hb : Below w.heap.size w W) => rlist_any d.lad d.lc TL W (hT.below hb) hm)
  have HTx := Lib.hid (fun W (hb : Below w.heap.size w W) => rtext_anyP d.pO d.pS d.pR W (by omega) (by omega) (hV.below hb))
  unfold docV at HRt HRf ⊢
  unfold cpVal at HTx
  have HN := Lib.hid hn
  have HE := Lib.hid (fun W => eql_pt W d)
  clear hS hT hV hd hB h1 h2 h3 hm hn
  go_enter Tryz.func25, Tryz.ntmps25
  go_upto_region 1 with fail
  rw [← hw1]
  clear hw1
  have c0 := cell_of_blk HD.out 0 (v := .int .i64 d.kind) rfl
  have c1 := cell_of_blk HD.out 1 (v := .int .i64 d.ver) rfl
  have c2 := cell_of_blk HD.out 2 (v := .int .i64 d.exp) rfl
  go_cut [3] (fun x wx => x = .bool (ok0 d) ∧ wx = w1)
  case first =>
    by_cases g1 : 1 ≤ d.kind
    case neg =>
      have HX : Hid (ok0 d = false) := Lib.hid (decide_eq_false (fun h => by omega))
      go_wp2_with fail
      go_meet
      exact ⟨by rw [HX.out], rfl⟩
    by_cases g2 : d.kind ≤ 4
    case neg =>
      have HX : Hid (ok0 d = false) := Lib.hid (decide_eq_false (fun h => by omega))
      go_wp2_with fail
      go_meet
      exact ⟨by rw [HX.out], rfl⟩
    by_cases g3 : 1 ≤ d.ver
    case neg =>
      have HX : Hid (ok0 d = false) := Lib.hid (decide_eq_false (fun h => by omega))
      go_wp2_with fail
      go_meet
      exact ⟨by rw [HX.out], rfl⟩
    by_cases g4 : d.ver ≤ 65535
    case neg =>
      have HX : Hid (ok0 d = false) := Lib.hid (decide_eq_false (fun h => by omega))
      go_wp2_with fail
      go_meet
      exact ⟨by rw [HX.out], rfl⟩
    by_cases g5 : 0 ≤ d.exp
    case neg =>
      have HX : Hid (ok0 d = false) := Lib.hid (decide_eq_false (fun h => by omega))
      go_wp2_with fail
      go_meet
      exact ⟨by rw [HX.out], rfl⟩
    by_cases g6 : d.exp ≤ 1099511627776
    case neg =>
      have HX : Hid (ok0 d = false) := Lib.hid (decide_eq_false (fun h => by omega))
      go_wp2_with fail
      go_meet
      exact ⟨by rw [HX.out], rfl⟩
    have HX : Hid (ok0 d = true) := Lib.hid (decide_eq_true ⟨g1, g2, g3, g4, g5, g6⟩)
    go_wp2_with fail
    go_meet
    exact ⟨by rw [HX.out], rfl⟩
  case rest =>
  obtain ⟨rfl, rfl⟩ := hcut
  clear c1 c2
  generalize ok0 d = x0 at HR ⊢
  go_upto_region 2 with fail
  go_cut [3] (fun x wx => x = .bool (x0 && okR d SL) ∧ Below w.heap.size w wx ∧ DocAt wx w.heap.size d)
  case first =>
    cases x0 with
    | false =>
      go_wp2_with fail
      go_meet
      exact ⟨rfl, HB.out, HD.out⟩
    | true =>
      by_cases k1 : d.kind = 1
      · have b1 : (d.kind == 1) = true := beq_iff_eq.2 k1
        have HX : Hid (okR d SL = rootT d SL) := Lib.hid (by unfold okR; rw [if_pos k1])
        clear k1
        go_wp2_with (first | refine wpList_docg rfl _ rfl w.heap.size d rfl HD.out ?_ | fail)
        refine (HRt.out _ HB.out).mono ?_
        rintro e w2 ⟨rfl, hb2⟩
        have HD2 : Hid (DocAt w2 w.heap.size d) := Lib.hid (HD.out.later hb2)
        have HB2 := Lib.hid (HB.out.trans (hb2.mono HB.out.size))
        clear hb2
        go_wp2_with fail
        go_meet
        exact ⟨by rw [HX.out]; rfl, HB2.out, HD2.out⟩
      · have b1 : (d.kind == 1) = false := beq_eq_false_iff_ne.2 k1
        have HX : Hid (okR d SL = rootF d) := Lib.hid (by unfold okR; rw [if_neg k1])
        clear k1
        go_wp2_with (first | refine wpList_docg rfl _ rfl w.heap.size d rfl HD.out ?_ | fail)
        refine (HRf.out _).mono ?_
        rintro e w2 ⟨rfl, hb2⟩
        have HD2 : Hid (DocAt w2 w.heap.size d) := Lib.hid (HD.out.later hb2)
        have HB2 := Lib.hid (HB.out.trans (hb2.mono HB.out.size))
        clear hb2
        go_wp2_with fail
        go_meet
        exact ⟨by rw [HX.out]; rfl, HB2.out, HD2.out⟩
  case rest =>
  obtain ⟨rfl, hb2, hd2⟩ := hcut
  clear HB HD c0
  have HB := Lib.hid hb2
  have HD := Lib.hid hd2
  have c0 := cell_of_blk hd2 0 (v := .int .i64 d.kind) rfl
  have c15 := cell_of_blk hd2 15 (v := .slice d.lad d.ln d.lc) rfl
  rw [HN.out] at c15
  clear hb2 hd2
  rw [← Bool.and_assoc] at HR
  generalize (x0 && okR d SL) = x1 at HR ⊢
  go_upto_if 44 with fail
  go_cut [3] (fun x wx => x = .bool (x1 && okL d TL) ∧ Below w.heap.size w wx ∧ DocAt wx w.heap.size d)
  case first =>
    by_cases k2 : d.kind = 2
    · have b1 : (d.kind == 2) = true := beq_iff_eq.2 k2
      have HX : Hid (okL d TL = goodTg TL) := Lib.hid (by unfold okL; rw [if_pos k2])
      clear k2
      cases x1 with
      | false =>
        go_wp2_with fail
        go_meet
        exact ⟨rfl, HB.out, HD.out⟩
      | true =>
        go_wp2_with fail
        refine (HLi.out _ HB.out).mono ?_
        rintro e w2 ⟨rfl, hb2⟩
        have HD2 : Hid (DocAt w2 w.heap.size d) := Lib.hid (HD.out.later hb2)
        have HB2 := Lib.hid (HB.out.trans (hb2.mono HB.out.size))
        clear hb2
        go_wp2_with fail
        go_meet
        exact ⟨by rw [HX.out]; rfl, HB2.out, HD2.out⟩
    · have b1 : (d.kind == 2) = false := beq_eq_false_iff_ne.2 k2
      have HX : Hid (okL d TL = decide (TL.length = 0)) := Lib.hid (by unfold okL; rw [if_neg k2])
      clear k2
      cases x1 with
      | false =>
        go_wp2_with fail
        go_meet
        exact ⟨rfl, HB.out, HD.out⟩
      | true =>
        by_cases hz : TL.length = 0
        · have bz : ((TL.length : Int) == 0) = true := beq_iff_eq.2 (by omega)
          have HY : Hid (okL d TL = true) := Lib.hid (by rw [HX.out, decide_eq_true hz])
          clear hz
          go_wp2_with fail
          go_meet
          exact ⟨by rw [HY.out]; rfl, HB.out, HD.out⟩
        · have bz : ((TL.length : Int) == 0) = false := beq_eq_false_iff_ne.2 (by omega)
          have HY : Hid (okL d TL = false) := Lib.hid (by rw [HX.out, decide_eq_false hz])
          clear hz
          go_wp2_with fail
          go_meet
          exact ⟨by rw [HY.out]; rfl, HB.out, HD.out⟩
  case rest =>
  obtain ⟨rfl, hb2, hd2⟩ := hcut
  clear HB HD c0 c15
  have HB := Lib.hid hb2
  have HD := Lib.hid hd2
  have c0 := cell_of_blk hd2 0 (v := .int .i64 d.kind) rfl
  have c16 := cell_of_blk hd2 16 (v := .string d.pO) rfl
  have c17 := cell_of_blk hd2 17 (v := .int .i64 d.pS) rfl
  have c18 := cell_of_blk hd2 18 (v := .string d.pR) rfl
  clear hb2 hd2
  rw [← Bool.and_assoc] at HR
  generalize (x1 && okL d TL) = x2 at HR ⊢
  go_upto_if 60 with fail
  go_cut [3] (fun x wx => x = .bool (x2 && okP d) ∧ Below w.heap.size w wx ∧ DocAt wx w.heap.size d)
  case first =>
    by_cases k3 : d.kind = 3
    · have b1 : (d.kind == 3) = true := beq_iff_eq.2 k3
      have HX : Hid (okP d = decide ((cpV d.pO d.pS d.pR).2 = 0)) := Lib.hid (by unfold okP; rw [if_pos k3])
      clear k3
      generalize cpV d.pO d.pS d.pR = q at HTx HX
      go_wp2_with fail
      refine (HTx.out _ HB.out).mono ?_
      rintro e w2 ⟨rfl, hb2⟩
      have HD2 : Hid (DocAt w2 w.heap.size d) := Lib.hid (HD.out.later hb2)
      have HB2 := Lib.hid (HB.out.trans (hb2.mono HB.out.size))
      clear hb2
      cases x2 with
      | false =>
        go_wp2_with fail
        go_meet
        exact ⟨rfl, HB2.out, HD2.out⟩
      | true =>
        by_cases hq : q.2 = 0
        · have bz : (q.2 == 0) = true := beq_iff_eq.2 hq
          have HY : Hid (okP d = true) := Lib.hid (by rw [HX.out, decide_eq_true hq])
          clear hq
          go_wp2_with fail
          go_meet
          exact ⟨by rw [HY.out]; rfl, HB2.out, HD2.out⟩
        · have bz : (q.2 == 0) = false := beq_eq_false_iff_ne.2 hq
          have HY : Hid (okP d = false) := Lib.hid (by rw [HX.out, decide_eq_false hq])
          clear hq
          go_wp2_with fail
          go_meet
          exact ⟨by rw [HY.out]; rfl, HB2.out, HD2.out⟩
    · have b1 : (d.kind == 3) = false := beq_eq_false_iff_ne.2 k3
      have HX : Hid (okP d = pointZ d) := Lib.hid (by unfold okP; rw [if_neg k3])
      have he := HE.out
      clear k3
      cases x2 with
      | false =>
        go_wp2_with fail
        go_meet
        exact ⟨rfl, HB.out, HD.out⟩
      | true =>
        go_wp2_with fail
        go_meet
        exact ⟨by rw [HX.out]; rfl, HB.out, HD.out⟩
  case rest =>
  obtain ⟨rfl, hb2, hd2⟩ := hcut
  clear HB HD c0 c16 c17 c18
  have HB := Lib.hid hb2
  have HD := Lib.hid hd2
  have c0 := cell_of_blk hd2 0 (v := .int .i64 d.kind) rfl
  have c19 := cell_of_blk hd2 19 (v := .int .i64 d.of) rfl
  have c20 := cell_of_blk hd2 20 (v := .string d.hash) rfl
  clear hb2 hd2
  rw [← Bool.and_assoc] at HR
  generalize (x2 && okP d) = x3 at HR ⊢
  go_upto_region 10 with fail
  go_cut [86] (fun x wx => x = .bool (decide (d.kind = 3 ∨ d.kind = 4)) ∧ Below w.heap.size w wx ∧ DocAt wx w.heap.size d)
  case first =>
    by_cases k3 : d.kind = 3
    · have b1 : (d.kind == 3) = true := beq_iff_eq.2 k3
      have HX : Hid (decide (d.kind = 3 ∨ d.kind = 4) = true) := Lib.hid (decide_eq_true (.inl k3))
      clear k3
      go_wp2_with fail
      go_meet
      exact ⟨by rw [HX.out], HB.out, HD.out⟩
    · have b1 : (d.kind == 3) = false := beq_eq_false_iff_ne.2 k3
      by_cases k4 : d.kind = 4
      · have b2 : (d.kind == 4) = true := beq_iff_eq.2 k4
        have HX : Hid (decide (d.kind = 3 ∨ d.kind = 4) = true) := Lib.hid (decide_eq_true (.inr k4))
        clear k3 k4
        go_wp2_with fail
        go_meet
        exact ⟨by rw [HX.out], HB.out, HD.out⟩
      · have b2 : (d.kind == 4) = false := beq_eq_false_iff_ne.2 k4
        have HX : Hid (decide (d.kind = 3 ∨ d.kind = 4) = false) := Lib.hid (decide_eq_false (by rintro (h | h); exact k3 h; exact k4 h))
        clear k3 k4
        go_wp2_with fail
        go_meet
        exact ⟨by rw [HX.out], HB.out, HD.out⟩
  case rest =>
  obtain ⟨rfl, hb2, hd2⟩ := hcut
  clear HB HD c0 c19 c20
  have HB := Lib.hid hb2
  have HD := Lib.hid hd2
  have c19 := cell_of_blk hd2 19 (v := .int .i64 d.of) rfl
  have c20 := cell_of_blk hd2 20 (v := .string d.hash) rfl
  clear hb2 hd2
  have hoh : okH d = if decide (d.kind = 3 ∨ d.kind = 4) = true then tsGood d.of d.hash else decide (d.of = 0) && decide (d.hash = ⟨#[]⟩) := by unfold okH; by_cases h : d.kind = 3 ∨ d.kind = 4 <;> simp [h]
  generalize decide (d.kind = 3 ∨ d.kind = 4) = y at hoh ⊢
  have HOh := Lib.hid hoh
  clear hoh
  go_upto_if 86 with fail
  go_cut [3] (fun x wx => x = .bool (x3 && okH d) ∧ Below w.heap.size w wx)
  case first =>
    cases x3 with
    | false =>
      cases y with
      | true =>
        go_wp2_with fail
        go_meet
        exact ⟨rfl, HB.out⟩
      | false =>
        go_wp2_with fail
        go_meet
        exact ⟨rfl, HB.out⟩
    | true =>
      cases y with
      | true =>
        have HX : Hid (okH d = tsGood d.of d.hash) := Lib.hid (by rw [HOh.out, if_pos rfl])
        unfold tsGood at HX
        by_cases g1 : 1 ≤ d.of
        · by_cases g2 : d.of ≤ 65535
          · by_cases g3 : d.hash.size = 32
            · have b3 : ((d.hash.size : Int) == 32) = true := beq_iff_eq.2 (by omega)
              have HY : Hid (okH d = true) := Lib.hid (by rw [HX.out, decide_eq_true ⟨g1, g2⟩, decide_eq_true g3]; rfl)
              clear g3
              go_wp2_with fail
              go_meet
              exact ⟨by rw [HY.out]; rfl, HB.out⟩
            · have b3 : ((d.hash.size : Int) == 32) = false := beq_eq_false_iff_ne.2 (by omega)
              have HY : Hid (okH d = false) := Lib.hid (by rw [HX.out, decide_eq_false g3, Bool.and_false])
              clear g3
              go_wp2_with fail
              go_meet
              exact ⟨by rw [HY.out]; rfl, HB.out⟩
          · have HY : Hid (okH d = false) := Lib.hid (by rw [HX.out, decide_eq_false (fun h => g2 h.2)]; rfl)
            go_wp2_with fail
            go_meet
            exact ⟨by rw [HY.out]; rfl, HB.out⟩
        · have HY : Hid (okH d = false) := Lib.hid (by rw [HX.out, decide_eq_false (fun h => g1 h.1)]; rfl)
          go_wp2_with fail
          go_meet
          exact ⟨by rw [HY.out]; rfl, HB.out⟩
      | false =>
        have HX : Hid (okH d = (decide (d.of = 0) && decide (d.hash = ⟨#[]⟩))) := Lib.hid (by rw [HOh.out]; exact if_neg (by decide))
        by_cases g1 : d.of = 0
        · have b1 : (d.of == 0) = true := beq_iff_eq.2 g1
          have HY : Hid (okH d = decide (d.hash = ⟨#[]⟩)) := Lib.hid (by rw [HX.out, decide_eq_true g1]; rfl)
          have hl := toList_eqbV d.hash ⟨#[]⟩
          have hli := isEmp d.hash
          generalize decide (d.hash = ⟨#[]⟩) = g at hl hli HY
          clear g1
          go_wp2_with fail
          go_meet
          exact ⟨by rw [HY.out]; rfl, HB.out⟩
        · have b1 : (d.of == 0) = false := beq_eq_false_iff_ne.2 g1
          have HY : Hid (okH d = false) := Lib.hid (by rw [HX.out, decide_eq_false g1]; rfl)
          clear g1
          go_wp2_with fail
          go_meet
          exact ⟨by rw [HY.out]; rfl, HB.out⟩
  case rest =>
  obtain ⟨rfl, hb2⟩ := hcut
  have HB := Lib.hid hb2
  clear hb2
  generalize (x3 && okH d) = x4 at HR ⊢
  cases x4 with
  | true =>
    have HX : Hid (R = 0) := Lib.hid HR.out
    go_wp2_with fail
    go_ret
    rw [HX.out]
    exact ⟨rfl, HB.out⟩
  | false =>
    have HX : Hid (R = 1) := Lib.hid HR.out
    go_wp2_with fail
    go_ret
    rw [HX.out]
    exact ⟨rfl, HB.out⟩
theorem rcheck_all (p : PD) (d : DV) (w : World) (h : DocM w d p) (hf : CFit p) (hV : VarsP w) : Calls Tryz.prog 25 #[docV d] w fun e w' => e = .returned (.int .i64 (chkP p)) ∧ Below w.heap.size w w' := by
  obtain ⟨a, c, rfl, hS, hT⟩ := h
  rw [chkP_ref p]
  exact rcheck_any (dvP p a c) p.S p.T w (sets_of hS hf) rfl hT hf.T hf.org hf.pO hf.pR hV
end Go.Proofs.YtmejjphliaiamaaGreatDoor
