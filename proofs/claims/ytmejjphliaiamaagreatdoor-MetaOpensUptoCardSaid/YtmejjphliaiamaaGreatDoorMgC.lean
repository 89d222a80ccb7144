import Derived.Test.YtmejjphliaiamaaGreatDoorMeY
import Derived.Deep.QuietTactic
import Derived.BigQuiet
import Derived.StillTail
import Derived.Lib.QuietBelow
import Derived.Test.YtmejjphliaiamaaGreatDoorMfQ
import Derived.Test.YtmejjphliaiamaaGreatDoorQuD
import Derived.Test.YtmejjphliaiamaaGreatDoorMfD
import Derived.Test.YtmejjphliaiamaaGreatDoorPkE
set_option linter.unusedVariables false
set_option linter.unusedSimpArgs false
namespace Go.Proofs.YtmejjphliaiamaaGreatDoor
open Go Go.RowKit Go.Lib Go.Sort

/-! ### is a set good: the document's answer -/
theorem le_not_lt : ∀ (a b : List UInt8), (Op.bytesLess a b || a == b) = !Op.bytesLess b a
  | [], [] => rfl
  | [], b :: y => rfl
  | a :: x, [] => rfl
  | a :: x, b :: y => by
    have ih := le_not_lt x y
    have e1 : Op.bytesLess (a :: x) (b :: y) = (decide (a < b) || (a == b && Op.bytesLess x y)) := rfl
    have e2 : Op.bytesLess (b :: y) (a :: x) = (decide (b < a) || (b == a && Op.bytesLess y x)) := rfl
    have e3 : (a :: x == b :: y) = (a == b && x == y) := rfl
    rw [e1, e2, e3]
    by_cases h : a = b
    · subst h
      have h1 : decide (a < a) = false := decide_eq_false (by rw [UInt8.lt_iff_toNat_lt]; omega)
      rw [h1, beq_self_eq_true]
      simpa using ih
    · have h1 : (a == b) = false := beq_eq_false_iff_ne.2 h
      have h2 : (b == a) = false := beq_eq_false_iff_ne.2 (fun e => h e.symm)
      rw [h1, h2]
      have hn : a.toNat ≠ b.toNat := fun e => h (UInt8.toNat_inj.1 e)
      by_cases h3 : a < b
      · rw [decide_eq_true h3, decide_eq_false (by rw [UInt8.lt_iff_toNat_lt] at h3 ⊢; omega)]; rfl
      · rw [decide_eq_false h3, decide_eq_true (by rw [UInt8.lt_iff_toNat_lt] at h3 ⊢; omega)]; rfl
def RcRel (L : List ByteArray) (w0 : World) (i : Value) (wr : World) : Prop := ∃ k : Nat, k ≤ L.length ∧ i = .int .i64 k ∧ (List.range k).all (idAt L) = true ∧ Below w0.heap.size w0 wr

set_option maxRecDepth 100000 in
set_option maxHeartbeats 1000000 in
theorem rqcheck_any (s : SV) (S : SetT) (w : World) (hS : SetM w s S) (hm : S.1.length ≤ 100000000) : Calls Tryz.prog 90 #[.agg #[.slice s.ad s.n s.c, .int .i64 s.need]] w fun e w' => e = .returned (.int .i64 (chkE (setGood S))) ∧ Below w.heap.size w w' := by
  obtain ⟨s1, s2, s3⟩ := hS
  rw [s1, s2]
  obtain ⟨L, need⟩ := S
  dsimp only at *
  obtain ⟨R, hR⟩ : ∃ R, R = chkE (setGood (L, need)) := ⟨_, rfl⟩
  rw [← hR]
  unfold setGood at hR
  dsimp only at hR
  have HL := Lib.hid s3
  have HR := Lib.hid hR
  have hB : ∀ o, Below w.heap.size w (w.alloc o) := fun o => (Below.refl _ w).alloc (Nat.le_refl _) o
  clear s1 s2 s3 hR
  by_cases h1 : (L.length : Int) < 1
  · have HX : Hid (R = 1) := Lib.hid (by rw [HR.out, decide_eq_false (fun h => by omega)]; rfl)
    go_enter Tryz.func90, Tryz.ntmps90
    go_wp2_with fail
    go_ret
    rw [HX.out]
    exact ⟨rfl, hB _⟩
  by_cases h2 : 16 < (L.length : Int)
  · have HX : Hid (R = 1) := Lib.hid (by rw [HR.out, decide_eq_false (fun h => by omega)]; rfl)
    go_enter Tryz.func90, Tryz.ntmps90
    go_wp2_with fail
    go_ret
    rw [HX.out]
    exact ⟨rfl, hB _⟩
  by_cases h3 : need < 1
  · have HX : Hid (R = 1) := Lib.hid (by rw [HR.out, decide_eq_false (fun h => by omega)]; rfl)
    go_enter Tryz.func90, Tryz.ntmps90
    go_wp2_with fail
    go_ret
    rw [HX.out]
    exact ⟨rfl, hB _⟩
  by_cases h4 : (L.length : Int) < need
  · have HX : Hid (R = 1) := Lib.hid (by rw [HR.out, decide_eq_false (fun h => by omega)]; rfl)
    go_enter Tryz.func90, Tryz.ntmps90
    go_wp2_with fail
    go_ret
    rw [HX.out]
    exact ⟨rfl, hB _⟩
  have hR2 : R = chkE ((List.range L.length).all (idAt L)) := by rw [HR.out, decide_eq_true ⟨by omega, by omega, by omega, by omega⟩]; rfl
  have HR2 := Lib.hid hR2
  clear hR2 HR
  have hb1 := blk_new w (.cells #[.slice s.ad L.length s.c, .int .i64 need] 24)
  have hK := hB (.cells #[.slice s.ad L.length s.c, .int .i64 need] 24)
  go_enter Tryz.func90, Tryz.ntmps90
  go_wp2_with fail
  generalize w.alloc (.cells #[.slice s.ad L.length s.c, .int .i64 need] 24) = w1 at hb1 hK ⊢
  have HK := Lib.hid hK
  have HLw := Lib.hid (HL.out.below hK)
  have HB1 := Lib.hid hb1
  clear hb1 hK HL
  go_loopw [3] (fun i wr => RcRel L w1 i wr) (fun i _ => L.length - (intOf i).toNat)
  case atStart => exact ⟨0, Nat.zero_le _, rfl, rfl, Below.refl _ _⟩
  case round =>
    obtain ⟨k, hk, rfl, ha, hbr⟩ := hrel
    have HA := Lib.hid ha
    have HBr := Lib.hid hbr
    have HKr := Lib.hid (HK.out.trans (hbr.mono HK.out.size))
    have HLr := Lib.hid (HLw.out.below hbr)
    have b0 := cell_of_blk (blk_later HB1.out hbr) 0 (v := .slice s.ad L.length s.c) rfl
    clear ha hbr
    by_cases hlt : k < L.length
    case pos =>
      obtain ⟨pb, po, ea, c0⟩ := HLr.out k L[k] (List.getElem?_eq_getElem hlt)
      have hgd : L.getD k ⟨#[]⟩ = L[k] := by rw [List.getD_eq_getElem?_getD, List.getElem?_eq_getElem hlt]; rfl
      have hst := range_all_snoc L k
      have hbad : idAt L k = false → R = 1 := fun h => by rw [HR2.out, range_all_bad hlt h]; rfl
      have hok : idAt L k = true → (List.range (k + 1)).all (idAt L) = true := fun h => by rw [hst, HA.out, h]; rfl
      have HBad := Lib.hid hbad
      have HOk := Lib.hid hok
      have hk0 : (0 : Int) ≤ (k : Int) := Int.natCast_nonneg _
      have hk1 : (k : Int) < (L.length : Int) := by omega
      rw [ea] at b0 ⊢
      have b0r := cell_regrown b0
      have hmono : ∀ w5, Below wr.heap.size wr w5 → Below w1.heap.size w1 w5 := fun w5 h => HBr.out.trans (h.mono HBr.out.size)
      have HMono := Lib.hid hmono
      clear hst hbad hok hmono
      by_cases h32 : (L[k].size : Int) = 32
      case neg =>
        have HX := Lib.hid (HBad.out (by unfold idAt; rw [hgd, decide_eq_false (fun h => h32 (by omega))]; rfl))
        generalize L[k] = x at c0 h32
        have b1 : ((x.size : Int) == 32) = false := beq_eq_false_iff_ne.2 h32
        have b2 : ((x.size : Int) != 32) = true := by rw [bne, b1]; rfl
        have c0r := cell_regrown c0
        clear hgd h32 HBad HOk
        go_wp2_with fail
        go_quiet (fail)
        have hb5 : Below wr.heap.size wr (wr.drewN nq) := ⟨rfl, rfl, rfl, Nat.le_refl _, fun _ _ => rfl⟩
        generalize wr.drewN nq = w5 at hb5 ⊢
        have H5 := Lib.hid (HKr.out.trans (hb5.mono HKr.out.size))
        clear hb5 c0r b0r c0 b0
        go_wp2_with fail
        go_ret
        rw [HX.out]
        exact ⟨rfl, H5.out⟩
      case pos =>
        have b1 : ((L[k].size : Int) == 32) = true := beq_iff_eq.2 h32
        have b2 : ((L[k].size : Int) != 32) = false := by rw [bne, b1]; rfl
        by_cases hz : k = 0
        case pos =>
          have HX := Lib.hid (HOk.out (by unfold idAt; rw [hgd, decide_eq_true (show L[k].size = 32 by omega), decide_eq_true hz]; rfl))
          generalize L[k] = x at c0 b1 b2
          have hz' : decide (0 < k) = false := decide_eq_false (by omega)
          have c0r := cell_regrown c0
          clear hgd h32 HBad HOk hz
          go_wp2_with fail
          go_quiet (fail)
          have hb5 : Below wr.heap.size wr (wr.drewN nq) := ⟨rfl, rfl, rfl, Nat.le_refl _, fun _ _ => rfl⟩
          generalize wr.drewN nq = w5 at hb5 ⊢
          have H5 := Lib.hid (HMono.out w5 hb5)
          clear hb5 c0r b0r c0 b0 hz'
          go_wp2_with fail
          refine ⟨⟨k + 1, hlt, rfl, HX.out, H5.out⟩, ?_⟩
          show L.length - ((k : Int) + 1).toNat < L.length - (k : Int).toNat
          omega
        case neg =>
          obtain ⟨j, rfl⟩ : ∃ j, k = j + 1 := ⟨k - 1, by omega⟩
          have hj : j < L.length := by omega
          obtain ⟨pb2, po2, eb, p0⟩ := HLr.out j L[j] (List.getElem?_eq_getElem hj)
          rw [ea] at eb
          cases eb
          have hgp : L.getD (j + 1 - 1) ⟨#[]⟩ = L[j] := by rw [Nat.add_sub_cancel, List.getD_eq_getElem?_getD, List.getElem?_eq_getElem hj]; rfl
          have hid : idAt L (j + 1) = !leB L[j + 1] L[j] := by
            unfold idAt
            rw [hgd, hgp, decide_eq_true (show L[j + 1].size = 32 by omega), decide_eq_false (show ¬ j + 1 = 0 by omega)]
            rfl
          rw [hid] at HBad HOk
          unfold leB at HBad HOk
          rw [le_not_lt, Bool.not_not] at HBad HOk
          generalize L[j + 1] = x at c0 b1 b2 HBad HOk
          generalize L[j] = y at p0 HBad HOk
          have hz' : decide ((0 : Int) < ((j + 1 : Nat) : Int)) = true := decide_eq_true (by omega)
          have hsub : ((j + 1 : Nat) : Int) - 1 = (j : Int) := by omega
          have hwr : IntKind.i64.wrap (j : Int) = (j : Int) := IntWalk.i64_in _ (by omega)
          have hj1 : (j : Int) < (L.length : Int) := by omega
          have hj0 : (0 : Int) ≤ (j : Int) := Int.natCast_nonneg _
          have c0r := cell_regrown c0
          have p0r := cell_regrown p0
          clear hgd hgp hid h32 hz
          generalize hq : Op.bytesLess y.toList x.toList = q at HBad HOk
          go_wp2_with fail
          go_quiet (fail)
          have hb5 : Below wr.heap.size wr (wr.drewN nq) := ⟨rfl, rfl, rfl, Nat.le_refl _, fun _ _ => rfl⟩
          generalize wr.drewN nq = w5 at hb5 ⊢
          have H5 := Lib.hid (HMono.out w5 hb5)
          have H5k := Lib.hid (HKr.out.trans (hb5.mono HKr.out.size))
          clear hb5 c0r b0r c0 b0 p0 p0r hz'
          cases q with
          | false =>
            have HX := Lib.hid (HBad.out rfl)
            clear HBad HOk
            go_wp2_with fail
            go_ret
            rw [HX.out]
            exact ⟨rfl, H5k.out⟩
          | true =>
            have HX := Lib.hid (HOk.out rfl)
            clear HBad HOk
            go_wp2_with fail
            refine ⟨⟨j + 1 + 1, hlt, rfl, HX.out, H5.out⟩, ?_⟩
            show L.length - (((j + 1 : Nat) : Int) + 1).toNat < L.length - ((j + 1 : Nat) : Int).toNat
            omega
    case neg =>
      obtain rfl : k = L.length := by omega
      have hX : R = 0 := by rw [HR2.out, HA.out]; rfl
      have HX := Lib.hid hX
      clear hX
      go_wp2_with fail
      go_ret
      rw [HX.out]
      exact ⟨rfl, HKr.out⟩

/-! ### a good set laid: the document's answer -/
def wApp (q : WS) (b : ByteArray) : WS := (q.1 ++ b, q.2)
theorem wApp_num (q : WS) (x : Int) (n : Nat) (h : badN x n = false) : wNum q x n = wApp q (numB x n) := by unfold wNum; rw [if_neg (by rw [h]; decide)]; rfl
theorem wApp_hash (q : WS) (s : ByteArray) (h : s.size = 32) : rHash q s = wApp q s := by unfold rHash; rw [if_neg (by omega)]; rfl
theorem wApp_text (q : WS) (s : ByteArray) (h : s.size ≤ 65535) : rText q s = wApp q (numB s.size 2 ++ s) := by
  unfold rText
  rw [if_neg (by omega)]
  unfold pText
  rw [wApp_num q _ 2 (num2_ok (by omega) (by omega))]
  unfold wApp
  rw [ba_assoc]
theorem wApp_app (q : WS) (a b : ByteArray) : wApp (wApp q a) b = wApp q (a ++ b) := by unfold wApp; rw [ba_assoc]
theorem wApp_size (q : WS) (a : ByteArray) : (wApp q a).1.size = q.1.size + a.size := ByteArray.size_append
def RlRel (w0 : World) (b : Nat) (Lp : List (Nat × Array Value × TypeId)) (q : WS) (L : List ByteArray) (i : Value) (wr : World) : Prop := ∃ k : Nat, k ≤ L.length ∧ i = .int .i64 k ∧ WG 101 w0.heap.size w0 wr b Lp (wApp q (idB (L.take k)))
theorem idB_sz : ∀ L : List ByteArray, (∀ t ∈ L, t.size = 32) → (idB L).size = 32 * L.length := by
  refine snoc_ind (fun _ => rfl) ?_
  intro L x ih h
  have h1 := ih (fun t ht => h t (by simp [ht]))
  have h2 := h x (by simp)
  rw [idB_snoc, ByteArray.size_append, List.length_append, List.length_singleton]
  omega

set_option maxRecDepth 100000 in
set_option maxHeartbeats 1000000 in
theorem rqlay_ok (w0 : World) (wb : Nat) (Lp : List (Nat × Array Value × TypeId)) (q : WS) (s : SV) (S : SetT) (w : World) (hS : SetM w0 s S) (hg : setGood S = true) (hq : q.1.size ≤ 1000000000)
    (hG : WG 101 w0.heap.size w0 w wb Lp q) :
    Calls Tryz.prog 61 #[.pointer (some ⟨wb, 0, none⟩), .agg #[.slice s.ad s.n s.c, .int .i64 s.need]] w fun e w' => e = .returned (.tuple #[]) ∧ WG 101 w0.heap.size w0 w' wb Lp (wApp q (setB S)) := by
  obtain ⟨⟨g1, g2, g3, g4⟩, g5⟩ := setGood_ids hg
  have hSw := hS.below hG.below
  have hGp := hG.push #[.slice s.ad s.n s.c, .int .i64 s.need] 24 (by decide) hG.below.size
  have hK : Below w.heap.size w (w.alloc (.cells #[.slice s.ad s.n s.c, .int .i64 s.need] 24)) := (Below.refl _ w).alloc (Nat.le_refl _) _
  have hC := rqcheck_any s S _ (hSw.below hK) (by omega)
  rw [hg] at hC
  have e1 : chkE true = 0 := rfl
  rw [e1] at hC
  obtain ⟨s1, s2, s3⟩ := hS
  rw [s1, s2] at hGp hC ⊢
  obtain ⟨L, need⟩ := S
  dsimp only at *
  obtain ⟨R, hR⟩ : ∃ R, R = wApp q (setB (L, need)) := ⟨_, rfl⟩
  rw [← hR]
  unfold setB at hR
  dsimp only at hR
  rw [show numB need 1 ++ (⟨#[]⟩ : ByteArray) = numB need 1 from ByteArray.append_empty, ← wApp_app, ← wApp_app] at hR
  have b0 := cell_of_blk ((hGp.par _ (List.mem_cons_self)).1) 0 (v := .slice s.ad L.length s.c) rfl
  have b1 := cell_of_blk ((hGp.par _ (List.mem_cons_self)).1) 1 (v := .int .i64 need) rfl
  have HL := Lib.hid s3
  have HR := Lib.hid hR
  have HG := Lib.hid hGp
  have HC := Lib.hid hC
  have H5 := Lib.hid g5
  have hz5 := idB_sz L g5
  clear hC hR s1 s2 s3 hG hSw hK hGp hg e1 g5
  go_enter Tryz.func61, Tryz.ntmps61
  go_wp2_with fail
  generalize w.alloc (.cells #[.slice s.ad L.length s.c, .int .i64 need] 24) = w1 at HC HG b0 b1 ⊢
  generalize w.heap.size = xb at HG b0 b1 ⊢
  refine HC.out.mono ?_
  rintro e w2 ⟨rfl, hb⟩
  have hg2 := HG.out.later hb
  have HG2 := Lib.hid hg2
  obtain ⟨v2, hv2⟩ := hg2.ex
  have HV2 := Lib.hid hv2
  clear b0 b1
  have b0 := cell_of_blk ((hg2.par _ (List.mem_cons_self)).1) 0 (v := .slice s.ad L.length s.c) rfl
  clear hb hg2 hv2 HG HC
  go_wp2_with fail
  refine (rnum_any _ wb v2 q L.length 1 w2 (by decide) (by omega) (by omega) HV2.out).mono ?_
  rintro e w3 ⟨rfl, hk⟩
  have hg3 := HG2.out.step HV2.out hk
  rw [wApp_num q _ 1 (num1_ok (by omega) (by omega))] at hg3
  have hq1 := wApp_size q (numB L.length 1)
  rw [numB_size] at hq1
  have HG3 := Lib.hid hg3
  clear hg3 hk HG2 HV2 b0
  generalize wApp q (numB L.length 1) = q1 at hq1 HG3 HR
  go_wp2_with fail
  go_loopw [4] (fun i wr => RlRel w0 wb ((xb, #[.slice s.ad L.length s.c, .int .i64 need], 24) :: Lp) q1 L i wr) (fun i _ => L.length - (intOf i).toNat)
  case atStart => exact ⟨0, Nat.zero_le _, rfl, by rw [show idB (L.take 0) = ⟨#[]⟩ from rfl]; unfold wApp; rw [show q1.1 ++ (⟨#[]⟩ : ByteArray) = q1.1 from ByteArray.append_empty]; exact HG3.out⟩
  case round =>
    clear HG3
    obtain ⟨k, hk, rfl, hG⟩ := hrel
    have HG := Lib.hid hG
    obtain ⟨v4, hv4⟩ := hG.ex
    have HV4 := Lib.hid hv4
    have b0 := cell_of_blk ((hG.par _ (List.mem_cons_self)).1) 0 (v := .slice s.ad L.length s.c) rfl
    have b1 := cell_of_blk ((hG.par _ (List.mem_cons_self)).1) 1 (v := .int .i64 need) rfl
    clear hG hv4
    by_cases hlt : k < L.length
    case pos =>
      obtain ⟨pb, po, ea, c0⟩ := (HL.out.below HG.out.below) k L[k] (List.getElem?_eq_getElem hlt)
      have h32 := H5.out L[k] (List.getElem_mem hlt)
      have hfs := wApp_size q1 (idB (L.take k))
      have hzk := idB_sz (L.take k) (fun t ht => H5.out t (List.mem_of_mem_take ht))
      have hlk : (L.take k).length = k := by rw [List.length_take]; omega
      have htk : wApp q1 (idB (L.take (k + 1))) = wApp (wApp q1 (idB (L.take k))) L[k] := by rw [List.take_succ_eq_append_getElem hlt, idB_snoc, wApp_app]
      have HTk := Lib.hid htk
      have HEa := Lib.hid ea
      rw [ea] at b0 ⊢
      generalize L[k] = x at c0 h32 HTk
      generalize wApp q1 (idB (L.take k)) = cur at HG HV4 HTk hfs
      have hk0 : (0 : Int) ≤ (k : Int) := Int.natCast_nonneg _
      have hk1 : (k : Int) < (L.length : Int) := by omega
      have hcz : cur.1.size ≤ 3000000000 := by omega
      clear htk hfs ea b1 hzk hlk
      go_wp2_with fail
      have hc := rwhash_any _ wb v4 cur x wr (by omega) (by omega) HV4.out
      rw [wApp_hash cur x h32] at hc
      refine hc.mono ?_
      rintro e w5 ⟨rfl, hk5⟩
      have HG5 := Lib.hid (HG.out.step HV4.out hk5)
      clear hk5 hc b0 c0
      go_wp2_with fail
      have hG5 := HG5.out
      rw [← HTk.out, HEa.out] at hG5
      refine ⟨⟨k + 1, hlt, rfl, hG5⟩, ?_⟩
      show L.length - ((k : Int) + 1).toNat < L.length - (k : Int).toNat
      omega
    case neg =>
      obtain rfl : k = L.length := by omega
      have hfin : L.take L.length = L := List.take_length
      rw [hfin] at HG HV4
      have hfs := wApp_size q1 (idB L)
      generalize wApp q1 (idB L) = q2 at HG HV4 HR hfs
      go_wp2_with fail
      have hc := rnum_any _ wb v4 q2 need 1 wr (by decide) (by omega) (by omega) HV4.out
      rw [wApp_num q2 need 1 (num1_ok (by omega) (by omega))] at hc
      refine hc.mono ?_
      rintro e w5 ⟨rfl, hk5⟩
      have HG5 := Lib.hid (HG.out.step HV4.out hk5).pop
      clear hk5 hc
      go_wp2_with fail
      go_end0
      exact ⟨rfl, HR.out ▸ HG5.out⟩

/-! ### a set taken: the document's answer -/
def TrPost (b : Nat) (q : SetT × RS) (w : World) (e : Ending) (w' : World) : Prop := ∃ ad c, e = .returned (.agg #[.slice ad q.1.1.length c, .int .i64 q.1.2]) ∧ OwnS w' w.heap.size (.slice ad q.1.1.length c) q.1.1 ∧ RdP 141 b q.2 w w'
structure TrS (w : World) (b : Nat) (L : List ByteArray) (r : RS) (wr : World) : Prop where
  ex : ∃ ad cap, OwnS wr (w.heap.size + 2) (.slice ad L.length cap) L ∧ wr.heap[w.heap.size + 1]? = some (.cells #[.slice ad L.length cap, .int .i64 0] 24 (0, 0))
  out : wr.heap[w.heap.size]? = some (.cells #[.slice none 0 0, .int .i64 0] 24 (0, 0))
  rd : RdP 141 b r w wr
def TrRel (w : World) (b : Nat) (r : RS) (n : Nat) (i : Value) (wr : World) : Prop := ∃ k : Nat, k ≤ n ∧ i = .int .i64 k ∧ TrS w b (takeIN r k).1 (takeIN r k).2 wr
theorem TrS.step {w : World} {b : Nat} {L : List ByteArray} {r r' : RS} {wr w' : World} (H : TrS w b L r wr) (hb : b < w.heap.size) (k : RdP 141 b r' wr w') : TrS w b L r' w' := by
  obtain ⟨ad, cap, ho, hx⟩ := H.ex
  exact ⟨⟨ad, cap, OwnL.kp ho k.2 (fun g hg => by have := (OwnL.lt ho g hg).1; omega), blk_kp hx k.2 (by omega)⟩, blk_kp H.out k.2 (by omega), k.1, H.rd.2.trans k.2⟩
set_option maxRecDepth 100000 in
set_option maxHeartbeats 2000000 in
theorem rtaketq_any (b : Nat) (r : RS) (w : World) (hs : r.1.size ≤ 1000000000) (h : Rdr 141 w b r) :
    Calls Tryz.prog 75 #[.pointer (some ⟨b, 0, none⟩)] w (TrPost b (takeSetP r) w) := by
  have hbw : b < w.heap.size := (Array.getElem?_eq_some_iff.1 h).1
  obtain ⟨n, hn, hn255⟩ := rNum1 r
  have hz1 : (rNum r 1).2.1.size ≤ r.1.size := (rRaw_size r 1).2
  obtain ⟨w2, hw2⟩ : ∃ w2, w2 = (w.alloc (.cells #[.slice none 0 0, .int .i64 0] 24)).alloc (.cells #[.slice none 0 0, .int .i64 0] 24) := ⟨_, rfl⟩
  have ho2 : w2.heap[w.heap.size]? = some (.cells #[.slice none 0 0, .int .i64 0] 24 (0, 0)) := by rw [hw2]; exact blk_new1 _ _ _
  have hx2 : w2.heap[w.heap.size + 1]? = some (.cells #[.slice none 0 0, .int .i64 0] 24 (0, 0)) := by rw [hw2]; exact blk_new2 _ _ _
  have hk2 : Kp (fun k => k = b) w w2 := by rw [hw2]; exact ((Kp.refl _ w).alloc _).alloc _
  have hr2 : Rdr 141 w2 b r := by rw [hw2]; exact blk_alloc (blk_alloc h _) _
  have HC := qnum_any b r 1 w2 (by decide) (by omega) hr2
  rw [qNum_small r (by decide), show ((1 : Nat) : Int) = 1 from rfl] at HC
  have HC := Lib.hid HC
  have hI2 : TrS w b [] r w2 := ⟨⟨none, 0, ownL_nil _ _, hx2⟩, ho2, hr2, hk2⟩
  have HI2 := Lib.hid hI2
  have hA : tsA r = takeIN (rNum r 1).2 n := by unfold tsA; rw [hn]; rfl
  have hB : tsB r = rNum (tsA r).2 1 := rfl
  have hF : tsF r = if setGood ((tsA r).1, (tsB r).1) = true then (tsB r).2 else rFail (tsB r).2 3 := rfl
  have hP : takeSetP r = (if (tsF r).2 = 0 then ((tsA r).1, (tsB r).1) else ([], 0), tsF r) := rfl
  obtain ⟨zA, zB, zF⟩ := tsF_size r
  have hlA : (tsA r).1.length = n := by rw [hA, takeIN_len]
  rw [hn] at HC
  unfold TrPost
  generalize takeSetP r = q at hP ⊢
  generalize tsF r = rF at *
  generalize tsB r = B at *
  generalize tsA r = A at *
  generalize (rNum r 1).2 = r1 at *
  have HA := Lib.hid hA
  have HB := Lib.hid hB
  have HF := Lib.hid hF
  have HP := Lib.hid hP
  have HLA := Lib.hid hlA
  clear h hn ho2 hx2 hk2 hr2 hI2 hA hB hF hP hlA
  go_enter Tryz.func75, Tryz.ntmps75
  go_wp2_with fail
  rw [← hw2]
  clear hw2
  refine HC.out.mono ?_
  rintro e w3 ⟨rfl, h3⟩
  have HI3 := Lib.hid (HI2.out.step hbw h3)
  clear h3 HC HI2
  go_wp2_with fail
  go_loopw [5] (fun i wr => TrRel w b r1 n i wr) (fun i _ => n - (intOf i).toNat)
  case atStart => exact ⟨0, Nat.zero_le _, rfl, HI3.out⟩
  case round =>
    clear HI3
    obtain ⟨k, hk, rfl, hI⟩ := hrel
    have HI := Lib.hid hI
    have hsz := takeIN_size r1 k
    have hln := Lib.hid (takeIN_len r1 k)
    have hwle : w.heap.size + 2 ≤ wr.heap.size := by obtain ⟨ad, cap, -, hx⟩ := hI.ex; have := (Array.getElem?_eq_some_iff.1 hx).1; omega
    clear hI
    by_cases hlt : k < n
    case pos =>
      have ht1 : (takeIN r1 (k + 1)).1 = (takeIN r1 k).1 ++ [(rRaw (takeIN r1 k).2 32).1] := rfl
      have ht2 : (takeIN r1 (k + 1)).2 = (rRaw (takeIN r1 k).2 32).2 := rfl
      have HT1 := Lib.hid ht1
      have HT2 := Lib.hid ht2
      have hk0 : (k : Int) < (n : Int) := by omega
      clear ht1 ht2
      generalize (takeIN r1 k).2 = ra at HI HT1 HT2 hsz
      generalize (takeIN r1 k).1 = L at HI HT1 hln
      have HC1 := Lib.hid (qraw_any b ra 32 wr.drew (by omega) HI.out.rd.1)
      generalize rRaw ra 32 = C at HC1 HT1 HT2
      obtain ⟨ad, cap, ho, hx⟩ := HI.out.ex
      have HO := Lib.hid ho
      have HX := Lib.hid hx
      have c0 := cell_of_blk hx 0 (v := .slice ad L.length cap) rfl
      have f0 := free_of_blk hx 0
      have hne : (Value.slice ad L.length cap).ownBlock ≠ some (w.heap.size + 1) := fun h => by have := (OwnL.lt ho _ h).1; omega
      obtain ⟨i0, hi, hz0, hz1', hz2'⟩ := info_parts infoStr
      have HI2 := Lib.hid hz2'
      clear hz2' ho hx
      go_wp2_with fail
      go_region_law ((first
        | (refine step_appL (by rfl) _ _ 22 (by rfl) i0 (.string ⟨#[]⟩) 16 Tryz.underlying22 hi hz0 hz1' HI2.out rfl (by decide) (w.heap.size + 2) (.slice ad L.length cap) L (by rfl) ((OwnL.kp HO.out k4 (fun g hg => by have := (OwnL.lt HO.out g hg).1; omega)).alloc _) C.1 rfl ⟨w4.heap.size, 0, none⟩ 1 (by rfl) (one_str w4 C.1 _) (by intro u hu; simp at hu; subst hu; rfl) (by have := hln.out; omega) (by decide) (by have := k4.size; simp; omega) ?_; intro v' w8 ho8 hg8 hv8; obtain ⟨ao8, cap8, rfl, -, -, -⟩ := OwnL.form ho8; have e0 := keep_cell0 d0 hg8 hne; have e1 := keep_free0 d0 g0 hg8 hne)
        | (go_simp; go_at_call 76; refine HC1.out.mono ?_; rintro e w4 ⟨rfl, h4⟩; have k4 : Kp (fun k => k = b) wr w4 := (Kp.refl (fun k => k = b) wr).drew.trans h4.2; have d0 := cell_of_blk (blk_kp HX.out k4 (by omega)) 0 (v := .slice ad L.length cap) rfl; have g0 := free_of_blk (blk_kp HX.out k4 (by omega)) 0; have d0a := fun o => cell_alloc d0 o)))
      all_goals
        have hown := OwnL.lt HO.out
        have k8 : Kp (fun k => (Value.slice ad L.length cap).ownBlock = some k) w4 w8 := ((Kp.refl (fun k => (Value.slice ad L.length cap).ownBlock = some k) w4).alloc _).grown hg8 (fun k h => .inl h)
        have k9 : Kp (fun k => k = w.heap.size + 1) w8 (w8.setCell ⟨w.heap.size + 1, 0, none⟩ (.slice ao8 (L ++ [C.1]).length cap8)) := (Kp.refl (fun k => k = w.heap.size + 1) w8).setCell (p := ⟨w.heap.size + 1, 0, none⟩) (.inl rfl) _
        have hI9 : TrS w b (L ++ [C.1]) C.2 (w8.setCell ⟨w.heap.size + 1, 0, none⟩ (.slice ao8 (L ++ [C.1]).length cap8)) := by
          refine ⟨⟨ao8, cap8, OwnL.kp ho8 k9 (fun g hg => by have := (OwnL.lt ho8 g hg).1; omega), blk_set (blk_kp (blk_kp HX.out k4 (by omega)) k8 (fun h => hne h)) _⟩, ?_, ?_, ?_⟩
          · exact blk_kp (blk_kp (blk_kp HI.out.out k4 (by omega)) k8 (fun h => by have := (hown _ h).1; omega)) k9 (by omega)
          · exact blk_kp (blk_kp h4.1 k8 (fun h => by have := (hown _ h).1; omega)) k9 (by omega)
          · exact ((HI.out.rd.2.trans k4).trans' k8 (fun i hi => .inr (by have := (hown i hi).1; omega))).trans' k9 (fun i hi => .inr (by omega))
        have HI9 := Lib.hid hI9
        have hll : (L ++ [C.1]).length = L.length + 1 := by rw [List.length_append]; rfl
        clear hown k8 k9 hI9 ho8 hg8 hv8 e0 e1 d0 g0 d0a h4 k4 c0 f0
        go_wp2_with fail
        refine ⟨⟨k + 1, hlt, rfl, ?_⟩, ?_⟩
        · rw [HT1.out, HT2.out, ← hll]
          exact HI9.out
        · show n - ((k : Int) + 1).toNat < n - (k : Int).toNat
          omega
    case neg =>
      obtain rfl : k = n := by omega
      have hI := HI.out
      rw [← HA.out] at hI
      have c2 := qnum_any b A.2 1 wr (by decide) (by omega) hI.rd.1
      rw [qNum_small A.2 (by decide), show ((1 : Nat) : Int) = 1 from rfl] at c2
      rw [← HB.out] at c2
      have HC2 := Lib.hid c2
      obtain ⟨ad, cap, ho, hx⟩ := hI.ex
      have HO := Lib.hid ho
      have HX := Lib.hid hx
      have HIo := Lib.hid hI.out
      have HIr := Lib.hid hI.rd
      clear c2 ho hx hI HI hln hsz
      go_wp2_with fail
      refine HC2.out.mono ?_
      rintro e w4 ⟨rfl, k4⟩
      have hx4 := blk_kp HX.out k4.2 (by omega)
      have x0 := cell_of_blk hx4 0 (v := .slice ad A.1.length cap) rfl
      have x1 := cell_of_blk hx4 1 (v := .int .i64 0) rfl
      have xf1 := free_of_blk hx4 1
      have k5 : Kp (fun k => k = w.heap.size + 1) w4 (w4.setCell ⟨w.heap.size + 1, 1, none⟩ (.int .i64 B.1)) := (Kp.refl (fun k => k = w.heap.size + 1) w4).setCell (p := ⟨w.heap.size + 1, 1, none⟩) (.inl rfl) _
      have H5 : Hid (OwnS (w4.setCell ⟨w.heap.size + 1, 1, none⟩ (.int .i64 B.1)) (w.heap.size + 2) (.slice ad A.1.length cap) A.1 ∧ (w4.setCell ⟨w.heap.size + 1, 1, none⟩ (.int .i64 B.1)).heap[w.heap.size + 1]? = some (.cells #[.slice ad A.1.length cap, .int .i64 B.1] 24 (0, 0)) ∧ (w4.setCell ⟨w.heap.size + 1, 1, none⟩ (.int .i64 B.1)).heap[w.heap.size]? = some (.cells #[.slice none 0 0, .int .i64 0] 24 (0, 0)) ∧ RdP 141 b B.2 w (w4.setCell ⟨w.heap.size + 1, 1, none⟩ (.int .i64 B.1))) := by
        refine Lib.hid ⟨OwnL.kp (OwnL.kp HO.out k4.2 (fun g hg => by have := (OwnL.lt HO.out g hg).1; omega)) k5 (fun g hg => by have := (OwnL.lt HO.out g hg).1; omega), blk_set hx4 _, blk_kp (blk_kp HIo.out k4.2 (by omega)) k5 (by omega), ⟨blk_kp k4.1 k5 (by omega), (HIr.out.2.trans k4.2).trans' k5 (fun i hi => .inr (by omega))⟩⟩
      clear hx4 k5 k4 HO HX HIo HIr HC2
      go_wp2_with fail
      clear x0 x1 xf1
      generalize w4.setCell ⟨w.heap.size + 1, 1, none⟩ (.int .i64 B.1) = w5 at H5 ⊢
      obtain ⟨a2, c2, hv2, htx⟩ := OwnS.txm H5.out.1
      cases hv2
      have hq := rqcheck_any ⟨ad, A.1.length, cap, B.1⟩ (A.1, B.1) w5 ⟨rfl, rfl, htx⟩ (by show A.1.length ≤ 100000000; have := HLA.out; omega)
      dsimp only at hq
      generalize setGood (A.1, B.1) = g at hq HF
      have HQ := Lib.hid hq
      clear hq htx
      cases g with
      | true =>
        obtain rfl : rF = B.2 := by rw [HF.out, if_pos rfl]
        refine HQ.out.mono ?_
        rintro e w7 ⟨rfl, hb7⟩
        have H7 : Hid (OwnS w7 (w.heap.size + 2) (.slice ad A.1.length cap) A.1 ∧ w7.heap[w.heap.size + 1]? = some (.cells #[.slice ad A.1.length cap, .int .i64 B.1] 24 (0, 0)) ∧ w7.heap[w.heap.size]? = some (.cells #[.slice none 0 0, .int .i64 0] 24 (0, 0)) ∧ RdP 141 b B.2 w w7) :=
          Lib.hid ⟨OwnL.below H5.out.1 hb7, blk_later H5.out.2.1 hb7, blk_later H5.out.2.2.1 hb7, blk_later H5.out.2.2.2.1 hb7, H5.out.2.2.2.2.below hb7⟩
        clear hb7 H5 HQ
        have ee : chkE true = 0 := rfl
        rw [ee]
        obtain ⟨⟨-, ce1⟩, -, -⟩ := H7.out.2.2.2.1.cells
        by_cases he : B.2.2 = 0
        · have b1 : (B.2.2 == 0) = true := beq_iff_eq.2 he
          have b2 : (B.2.2 != 0) = false := by rw [bne, b1]; rfl
          obtain rfl : q = ((A.1, B.1), B.2) := by rw [HP.out, if_pos he]
          have x0 := cell_of_blk H7.out.2.1 0 (v := .slice ad A.1.length cap) rfl
          have x1 := cell_of_blk H7.out.2.1 1 (v := .int .i64 B.1) rfl
          have o0 := cell_of_blk H7.out.2.2.1 0 (v := .slice none 0 0) rfl
          have o1 := cell_of_blk H7.out.2.2.1 1 (v := .int .i64 0) rfl
          have fo0 := free_of_blk H7.out.2.2.1 0
          have fo1 := free_of_blk H7.out.2.2.1 1
          have k8 : Kp (fun k => k = w.heap.size) w7 ((w7.setCell ⟨w.heap.size, 0, none⟩ (.slice ad A.1.length cap)).setCell ⟨w.heap.size, 1, none⟩ (.int .i64 B.1)) := ((Kp.refl (fun k => k = w.heap.size) w7).setCell (p := ⟨w.heap.size, 0, none⟩) (.inl rfl) _).setCell (p := ⟨w.heap.size, 1, none⟩) (.inl rfl) _
          have hret : ((w7.setCell ⟨w.heap.size, 0, none⟩ (.slice ad A.1.length cap)).setCell ⟨w.heap.size, 1, none⟩ (.int .i64 B.1)).heap[w.heap.size]? = some (.cells #[.slice ad A.1.length cap, .int .i64 B.1] 24 (0, 0)) := blk_set (blk_set H7.out.2.2.1 _) _
          have HRet := Lib.hid hret
          have HO8 := Lib.hid (OwnL.base (OwnL.kp H7.out.1 k8 (fun g hg => by have := (OwnL.lt H7.out.1 g hg).1; omega)) (base' := w.heap.size) (fun g hg => by have := (OwnL.lt H7.out.1 g hg).1; omega))
          have HR8 : Hid (RdP 141 b B.2 w _) := Lib.hid ⟨blk_kp H7.out.2.2.2.1 k8 (by omega), H7.out.2.2.2.2.trans' k8 (fun i hi => .inr (by omega))⟩
          clear hret k8 he
          go_wp2_with fail
          exact set_ret _ _ w.heap.size ad A.1.length cap B.1 HRet.out rfl rfl rfl ⟨ad, cap, rfl, HO8.out, HR8.out⟩
        · have b1 : (B.2.2 == 0) = false := beq_eq_false_iff_ne.2 he
          have b2 : (B.2.2 != 0) = true := by rw [bne, b1]; rfl
          obtain rfl : q = (([], 0), B.2) := by rw [HP.out, if_neg he]
          have o0 := cell_of_blk H7.out.2.2.1 0 (v := .slice none 0 0) rfl
          have o1 := cell_of_blk H7.out.2.2.1 1 (v := .int .i64 0) rfl
          have fo0 := free_of_blk H7.out.2.2.1 0
          have fo1 := free_of_blk H7.out.2.2.1 1
          have k8 : Kp (fun k => k = w.heap.size) w7 ((w7.setCell ⟨w.heap.size, 0, none⟩ (.slice none 0 0)).setCell ⟨w.heap.size, 1, none⟩ (.int .i64 0)) := ((Kp.refl (fun k => k = w.heap.size) w7).setCell (p := ⟨w.heap.size, 0, none⟩) (.inl rfl) _).setCell (p := ⟨w.heap.size, 1, none⟩) (.inl rfl) _
          have hret : ((w7.setCell ⟨w.heap.size, 0, none⟩ (.slice none 0 0)).setCell ⟨w.heap.size, 1, none⟩ (.int .i64 0)).heap[w.heap.size]? = some (.cells #[.slice none 0 0, .int .i64 0] 24 (0, 0)) := blk_set (blk_set H7.out.2.2.1 _) _
          have HRet := Lib.hid hret
          have HR8 : Hid (RdP 141 b B.2 w _) := Lib.hid ⟨blk_kp H7.out.2.2.2.1 k8 (by omega), H7.out.2.2.2.2.trans' k8 (fun i hi => .inr (by omega))⟩
          clear hret k8 he
          go_wp2_with fail
          exact set_ret _ _ w.heap.size none 0 0 0 HRet.out rfl rfl rfl ⟨none, 0, rfl, ownL_nil _ _, HR8.out⟩
      | false =>
        obtain rfl : rF = rFail B.2 3 := by rw [HF.out]; exact if_neg (by decide)
        refine HQ.out.mono ?_
        rintro e w6 ⟨rfl, hb7⟩
        have H6 : Hid (OwnS w6 (w.heap.size + 2) (.slice ad A.1.length cap) A.1 ∧ w6.heap[w.heap.size + 1]? = some (.cells #[.slice ad A.1.length cap, .int .i64 B.1] 24 (0, 0)) ∧ w6.heap[w.heap.size]? = some (.cells #[.slice none 0 0, .int .i64 0] 24 (0, 0)) ∧ RdP 141 b B.2 w w6) :=
          Lib.hid ⟨OwnL.below H5.out.1 hb7, blk_later H5.out.2.1 hb7, blk_later H5.out.2.2.1 hb7, blk_later H5.out.2.2.2.1 hb7, H5.out.2.2.2.2.below hb7⟩
        clear hb7 H5 HQ
        have ee : chkE false = 1 := rfl
        rw [ee]
        go_wp2_with fail
        refine (qfail_any b B.2 3 w6 H6.out.2.2.2.1).mono ?_
        rintro e w7 ⟨rfl, k7⟩
        have H7 : Hid (OwnS w7 (w.heap.size + 2) (.slice ad A.1.length cap) A.1 ∧ w7.heap[w.heap.size + 1]? = some (.cells #[.slice ad A.1.length cap, .int .i64 B.1] 24 (0, 0)) ∧ w7.heap[w.heap.size]? = some (.cells #[.slice none 0 0, .int .i64 0] 24 (0, 0)) ∧ RdP 141 b (rFail B.2 3) w w7) :=
          Lib.hid ⟨OwnL.kp H6.out.1 k7.2 (fun g hg => by have := (OwnL.lt H6.out.1 g hg).1; omega), blk_kp H6.out.2.1 k7.2 (by omega), blk_kp H6.out.2.2.1 k7.2 (by omega), k7.1, H6.out.2.2.2.2.trans k7.2⟩
        clear k7 H6
        obtain ⟨⟨-, ce1⟩, -, -⟩ := H7.out.2.2.2.1.cells
        by_cases he : (rFail B.2 3).2 = 0
        · have b1 : ((rFail B.2 3).2 == 0) = true := beq_iff_eq.2 he
          have b2 : ((rFail B.2 3).2 != 0) = false := by rw [bne, b1]; rfl
          obtain rfl : q = ((A.1, B.1), (rFail B.2 3)) := by rw [HP.out, if_pos he]
          have x0 := cell_of_blk H7.out.2.1 0 (v := .slice ad A.1.length cap) rfl
          have x1 := cell_of_blk H7.out.2.1 1 (v := .int .i64 B.1) rfl
          have o0 := cell_of_blk H7.out.2.2.1 0 (v := .slice none 0 0) rfl
          have o1 := cell_of_blk H7.out.2.2.1 1 (v := .int .i64 0) rfl
          have fo0 := free_of_blk H7.out.2.2.1 0
          have fo1 := free_of_blk H7.out.2.2.1 1
          have k8 : Kp (fun k => k = w.heap.size) w7 ((w7.setCell ⟨w.heap.size, 0, none⟩ (.slice ad A.1.length cap)).setCell ⟨w.heap.size, 1, none⟩ (.int .i64 B.1)) := ((Kp.refl (fun k => k = w.heap.size) w7).setCell (p := ⟨w.heap.size, 0, none⟩) (.inl rfl) _).setCell (p := ⟨w.heap.size, 1, none⟩) (.inl rfl) _
          have hret : ((w7.setCell ⟨w.heap.size, 0, none⟩ (.slice ad A.1.length cap)).setCell ⟨w.heap.size, 1, none⟩ (.int .i64 B.1)).heap[w.heap.size]? = some (.cells #[.slice ad A.1.length cap, .int .i64 B.1] 24 (0, 0)) := blk_set (blk_set H7.out.2.2.1 _) _
          have HRet := Lib.hid hret
          have HO8 := Lib.hid (OwnL.base (OwnL.kp H7.out.1 k8 (fun g hg => by have := (OwnL.lt H7.out.1 g hg).1; omega)) (base' := w.heap.size) (fun g hg => by have := (OwnL.lt H7.out.1 g hg).1; omega))
          have HR8 : Hid (RdP 141 b (rFail B.2 3) w _) := Lib.hid ⟨blk_kp H7.out.2.2.2.1 k8 (by omega), H7.out.2.2.2.2.trans' k8 (fun i hi => .inr (by omega))⟩
          clear hret k8 he
          go_wp2_with fail
          exact set_ret _ _ w.heap.size ad A.1.length cap B.1 HRet.out rfl rfl rfl ⟨ad, cap, rfl, HO8.out, HR8.out⟩
        · have b1 : ((rFail B.2 3).2 == 0) = false := beq_eq_false_iff_ne.2 he
          have b2 : ((rFail B.2 3).2 != 0) = true := by rw [bne, b1]; rfl
          obtain rfl : q = (([], 0), (rFail B.2 3)) := by rw [HP.out, if_neg he]
          have o0 := cell_of_blk H7.out.2.2.1 0 (v := .slice none 0 0) rfl
          have o1 := cell_of_blk H7.out.2.2.1 1 (v := .int .i64 0) rfl
          have fo0 := free_of_blk H7.out.2.2.1 0
          have fo1 := free_of_blk H7.out.2.2.1 1
          have k8 : Kp (fun k => k = w.heap.size) w7 ((w7.setCell ⟨w.heap.size, 0, none⟩ (.slice none 0 0)).setCell ⟨w.heap.size, 1, none⟩ (.int .i64 0)) := ((Kp.refl (fun k => k = w.heap.size) w7).setCell (p := ⟨w.heap.size, 0, none⟩) (.inl rfl) _).setCell (p := ⟨w.heap.size, 1, none⟩) (.inl rfl) _
          have hret : ((w7.setCell ⟨w.heap.size, 0, none⟩ (.slice none 0 0)).setCell ⟨w.heap.size, 1, none⟩ (.int .i64 0)).heap[w.heap.size]? = some (.cells #[.slice none 0 0, .int .i64 0] 24 (0, 0)) := blk_set (blk_set H7.out.2.2.1 _) _
          have HRet := Lib.hid hret
          have HR8 : Hid (RdP 141 b (rFail B.2 3) w _) := Lib.hid ⟨blk_kp H7.out.2.2.2.1 k8 (by omega), H7.out.2.2.2.2.trans' k8 (fun i hi => .inr (by omega))⟩
          clear hret k8 he
          go_wp2_with fail
          exact set_ret _ _ w.heap.size none 0 0 0 HRet.out rfl rfl rfl ⟨none, 0, rfl, ownL_nil _ _, HR8.out⟩
end Go.Proofs.YtmejjphliaiamaaGreatDoor
