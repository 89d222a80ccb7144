import Derived.Test.YtmejjphliaiamaaGreatDoorMeW
import Derived.Laws.Cover1
set_option linter.unusedVariables false
set_option linter.unusedSimpArgs false
namespace Go.Proofs.YtmejjphliaiamaaGreatDoor
open Go Go.RowKit Go.Lib

/-! ### is a set good -/
def leB (a b : ByteArray) : Bool := Op.bytesLess a.toList b.toList || a.toList == b.toList
def idAt (L : List ByteArray) (j : Nat) : Bool := decide ((L.getD j ⟨#[]⟩).size = 32) && (decide (j = 0) || !leB (L.getD j ⟨#[]⟩) (L.getD (j - 1) ⟨#[]⟩))
def setGood (S : SetT) : Bool := decide (1 ≤ S.1.length ∧ S.1.length ≤ 16 ∧ 1 ≤ S.2 ∧ S.2 ≤ S.1.length) && (List.range S.1.length).all (idAt S.1)
def QcRel (L : List ByteArray) (w0 : World) (i : Value) (wr : World) : Prop := ∃ k : Nat, k ≤ L.length ∧ i = .int .i64 k ∧ (List.range k).all (idAt L) = true ∧ w0 = wr
theorem range_all_snoc (L : List ByteArray) (k : Nat) : (List.range (k + 1)).all (idAt L) = ((List.range k).all (idAt L) && idAt L k) := by rw [List.range_succ, List.all_append]; simp
theorem range_all_bad {L : List ByteArray} {k n : Nat} (hk : k < n) (h : idAt L k = false) : (List.range n).all (idAt L) = false := by
  rw [Bool.eq_false_iff]
  intro h2
  have := List.all_eq_true.1 h2 k (List.mem_range.2 hk)
  rw [h] at this
  cases this

set_option maxRecDepth 100000 in
set_option maxHeartbeats 4000000 in
theorem qcheck_any (s : SV) (S : SetT) (w : World) (hS : SetM w s S) (hm : S.1.length ≤ 100000000) : Calls Tryz.prog 87 #[.agg #[.slice s.ad s.n s.c, .int .i64 s.need]] w fun e w' => e = .returned (.int .i64 (chkE (setGood S))) ∧ Below w.heap.size w w' := by
  obtain ⟨s1, s2, s3⟩ := hS
  rw [s1, s2]
  obtain ⟨L, need⟩ := S
  dsimp only at *
  obtain ⟨R, hR⟩ : ∃ R, R = chkE (setGood (L, need)) := ⟨_, rfl⟩
  rw [← hR]
  unfold setGood at hR
  dsimp only at hR
  have HL := Lib.hid s3
  have HR := Lib.hid hR
  have hB : ∀ o, Below w.heap.size w (w.alloc o) := fun o => (Below.refl _ w).alloc (Nat.le_refl _) o
  clear s1 s2 s3 hR
  by_cases h1 : (L.length : Int) < 1
  · have HX : Hid (R = 1) := Lib.hid (by rw [HR.out, decide_eq_false (fun h => by omega)]; rfl)
    go_enter Tryz.func87, Tryz.ntmps87
    go_wp2_with fail
    go_ret
    rw [HX.out]
    exact ⟨rfl, hB _⟩
  by_cases h2 : 16 < (L.length : Int)
  · have HX : Hid (R = 1) := Lib.hid (by rw [HR.out, decide_eq_false (fun h => by omega)]; rfl)
    go_enter Tryz.func87, Tryz.ntmps87
    go_wp2_with fail
    go_ret
    rw [HX.out]
    exact ⟨rfl, hB _⟩
  by_cases h3 : need < 1
  · have HX : Hid (R = 1) := Lib.hid (by rw [HR.out, decide_eq_false (fun h => by omega)]; rfl)
    go_enter Tryz.func87, Tryz.ntmps87
    go_wp2_with fail
    go_ret
    rw [HX.out]
    exact ⟨rfl, hB _⟩
  by_cases h4 : (L.length : Int) < need
  · have HX : Hid (R = 1) := Lib.hid (by rw [HR.out, decide_eq_false (fun h => by omega)]; rfl)
    go_enter Tryz.func87, Tryz.ntmps87
    go_wp2_with fail
    go_ret
    rw [HX.out]
    exact ⟨rfl, hB _⟩
  have hR2 : R = chkE ((List.range L.length).all (idAt L)) := by rw [HR.out, decide_eq_true ⟨by omega, by omega, by omega, by omega⟩]; rfl
  have HR2 := Lib.hid hR2
  clear hR2 HR
  have hb1 := blk_new w (.cells #[.slice s.ad L.length s.c, .int .i64 need] 24)
  have hK := hB (.cells #[.slice s.ad L.length s.c, .int .i64 need] 24)
  go_enter Tryz.func87, Tryz.ntmps87
  go_wp2_with fail
  generalize w.alloc (.cells #[.slice s.ad L.length s.c, .int .i64 need] 24) = w1 at hb1 hK ⊢
  have HK := Lib.hid hK
  have HLw := Lib.hid (HL.out.below hK)
  have b0 := cell_of_blk hb1 0 (v := .slice s.ad L.length s.c) rfl
  clear hb1 hK HL
  go_loopw [31] (fun i wr => QcRel L w1 i wr) (fun i _ => L.length - (intOf i).toNat)
  case atStart => exact ⟨0, Nat.zero_le _, rfl, rfl, rfl⟩
  case round =>
    obtain ⟨k, hk, rfl, ha, rfl⟩ := hrel
    have HA := Lib.hid ha
    clear ha
    by_cases hlt : k < L.length
    case pos =>
      obtain ⟨pb, po, ea, c0⟩ := HLw.out k L[k] (List.getElem?_eq_getElem hlt)
      have hgd : L.getD k ⟨#[]⟩ = L[k] := by rw [List.getD_eq_getElem?_getD, List.getElem?_eq_getElem hlt]; rfl
      have hst := range_all_snoc L k
      have hbad : idAt L k = false → R = 1 := fun h => by rw [HR2.out, range_all_bad hlt h]; rfl
      have hok : idAt L k = true → (List.range (k + 1)).all (idAt L) = true := fun h => by rw [hst, HA.out, h]; rfl
      have HBad := Lib.hid hbad
      have HOk := Lib.hid hok
      have hk0 : (0 : Int) ≤ (k : Int) := Int.natCast_nonneg _
      have hk1 : (k : Int) < (L.length : Int) := by omega
      rw [ea] at b0 ⊢
      clear hst hbad hok
      by_cases h32 : (L[k].size : Int) = 32
      case neg =>
        have HX := Lib.hid (HBad.out (by unfold idAt; rw [hgd, decide_eq_false (fun h => h32 (by omega))]; rfl))
        generalize L[k] = x at c0 h32
        have b1 : ((x.size : Int) == 32) = false := beq_eq_false_iff_ne.2 h32
        have b2 : ((x.size : Int) != 32) = true := by rw [bne, b1]; rfl
        clear hgd h32 HBad HOk
        go_wp2_with fail
        go_ret
        rw [HX.out]
        exact ⟨rfl, HK.out⟩
      case pos =>
        have b1 : ((L[k].size : Int) == 32) = true := beq_iff_eq.2 h32
        have b2 : ((L[k].size : Int) != 32) = false := by rw [bne, b1]; rfl
        by_cases hz : k = 0
        case pos =>
          have HX := Lib.hid (HOk.out (by unfold idAt; rw [hgd, decide_eq_true (show L[k].size = 32 by omega), decide_eq_true hz]; rfl))
          generalize L[k] = x at c0 b1 b2
          have hz' : ¬ (0 : Int) < (k : Int) := by omega
          clear hgd h32 HBad HOk hz
          go_wp2_with fail
          refine ⟨⟨k + 1, hlt, rfl, HX.out, rfl⟩, ?_⟩
          show L.length - ((k : Int) + 1).toNat < L.length - (k : Int).toNat
          omega
        case neg =>
          obtain ⟨j, rfl⟩ : ∃ j, k = j + 1 := ⟨k - 1, by omega⟩
          have hj : j < L.length := by omega
          obtain ⟨pb2, po2, eb, p0⟩ := HLw.out j L[j] (List.getElem?_eq_getElem hj)
          rw [ea] at eb
          cases eb
          have hgp : L.getD (j + 1 - 1) ⟨#[]⟩ = L[j] := by rw [Nat.add_sub_cancel, List.getD_eq_getElem?_getD, List.getElem?_eq_getElem hj]; rfl
          have hid : idAt L (j + 1) = !leB L[j + 1] L[j] := by
            unfold idAt
            rw [hgd, hgp, decide_eq_true (show L[j + 1].size = 32 by omega), decide_eq_false (show ¬ j + 1 = 0 by omega)]
            rfl
          rw [hid] at HBad HOk
          unfold leB at HBad HOk
          generalize L[j + 1] = x at c0 b1 b2 HBad HOk
          generalize L[j] = y at p0 HBad HOk
          have hz' : (0 : Int) < ((j + 1 : Nat) : Int) := by omega
          have hsub : ((j + 1 : Nat) : Int) - 1 = (j : Int) := by omega
          have hwr : IntKind.i64.wrap (j : Int) = (j : Int) := IntWalk.i64_in _ (by omega)
          have hj1 : (j : Int) < (L.length : Int) := by omega
          clear hgd hgp hid h32 hz
          cases hq : (Op.bytesLess x.toList y.toList || x.toList == y.toList) with
          | true =>
            rw [hq] at HBad
            have HX := Lib.hid (HBad.out rfl)
            clear HBad HOk
            go_wp2_with fail
            go_ret
            rw [HX.out]
            exact ⟨rfl, HK.out⟩
          | false =>
            rw [hq] at HOk
            have HX := Lib.hid (HOk.out rfl)
            clear HBad HOk
            go_wp2_with fail
            refine ⟨⟨j + 1 + 1, hlt, rfl, HX.out, rfl⟩, ?_⟩
            show L.length - (((j + 1 : Nat) : Int) + 1).toNat < L.length - ((j + 1 : Nat) : Int).toNat
            omega
    case neg =>
      obtain rfl : k = L.length := by omega
      have hX : R = 0 := by rw [HR2.out, HA.out]; rfl
      have HX := Lib.hid hX
      clear hX
      go_wp2_with fail
      go_ret
      rw [HX.out]
      exact ⟨rfl, HK.out⟩

/-! ### a set laid -/
def laySetP (S : SetT) (q : WS) : WS := if setGood S = true then wNum (S.1.foldl pHash (wNum q S.1.length 1)) S.2 1 else wNum q (-1) 1
def txZ : List ByteArray → Nat
  | [] => 0
  | x :: r => x.size + txZ r
theorem pHash_size (q : WS) (x : ByteArray) : (pHash q x).1.size = q.1.size + x.size := by unfold pHash; exact ByteArray.size_append
theorem foldH_size : ∀ (L : List ByteArray) (q : WS), (L.foldl pHash q).1.size = q.1.size + txZ L
  | [], q => rfl
  | x :: r, q => by
    have h1 := foldH_size r (pHash q x)
    have h2 := pHash_size q x
    show (r.foldl pHash (pHash q x)).1.size = q.1.size + (x.size + txZ r)
    omega
theorem txZ_get : ∀ (L : List ByteArray) (k : Nat) (h : k < L.length), txZ (L.take k) + L[k].size ≤ txZ L
  | x :: r, 0, h => by simp [txZ]
  | x :: r, k + 1, h => by
    have := txZ_get r k (by simpa using h)
    rw [List.take_succ_cons, txZ, txZ, List.getElem_cons_succ]
    omega
def QlRel (w0 : World) (b : Nat) (Lp : List (Nat × Array Value × TypeId)) (q : WS) (L : List ByteArray) (i : Value) (wr : World) : Prop := ∃ k : Nat, k ≤ L.length ∧ i = .int .i64 k ∧ WG 75 w0.heap.size w0 wr b Lp ((L.take k).foldl pHash q)

set_option maxRecDepth 100000 in
set_option maxHeartbeats 4000000 in
theorem qlay_any (w0 : World) (wb : Nat) (Lp : List (Nat × Array Value × TypeId)) (q : WS) (s : SV) (S : SetT) (w : World) (hS : SetM w0 s S) (hm : S.1.length ≤ 100000000) (hz : txZ S.1 ≤ 1000000000) (hq : q.1.size ≤ 1000000000) (hI : I64 S.2)
    (hG : WG 75 w0.heap.size w0 w wb Lp q) :
    Calls Tryz.prog 149 #[.pointer (some ⟨wb, 0, none⟩), .agg #[.slice s.ad s.n s.c, .int .i64 s.need]] w fun e w' => e = .returned (.tuple #[]) ∧ WG 75 w0.heap.size w0 w' wb Lp (laySetP S q) := by
  have hSw := hS.below hG.below
  have hGp := hG.push #[.slice s.ad s.n s.c, .int .i64 s.need] 24 (by decide) hG.below.size
  have hK : Below w.heap.size w (w.alloc (.cells #[.slice s.ad s.n s.c, .int .i64 s.need] 24)) := (Below.refl _ w).alloc (Nat.le_refl _) _
  have hC := qcheck_any s S _ (hSw.below hK) (by omega)
  obtain ⟨s1, s2, s3⟩ := hS
  rw [s1, s2] at hGp hC ⊢
  obtain ⟨L, need⟩ := S
  dsimp only at *
  obtain ⟨R, hR⟩ : ∃ R, R = laySetP (L, need) q := ⟨_, rfl⟩
  rw [← hR]
  unfold laySetP at hR
  dsimp only at hR
  have b0 := cell_of_blk ((hGp.par _ (List.mem_cons_self)).1) 0 (v := .slice s.ad L.length s.c) rfl
  have b1 := cell_of_blk ((hGp.par _ (List.mem_cons_self)).1) 1 (v := .int .i64 need) rfl
  have HL := Lib.hid s3
  have HR := Lib.hid hR
  have HG := Lib.hid hGp
  have HI := Lib.hid hI
  rw [s1, s2] at hK
  generalize setGood (L, need) = g at hC HR
  have HC := Lib.hid hC
  clear hC hR s1 s2 s3 hG hSw hK hGp hI
  cases g with
  | false =>
    have HX : Hid (R = wNum q (-1) 1) := Lib.hid HR.out
    have e1 : chkE false = 1 := rfl
    rw [e1] at HC
    clear HR e1
    go_enter Tryz.func149, Tryz.ntmps149
    go_wp2_with fail
    generalize w.alloc (.cells #[.slice s.ad L.length s.c, .int .i64 need] 24) = w0' at HC HG b0 b1 ⊢
    generalize w.heap.size = xb at HG b0 b1 ⊢
    refine HC.out.mono ?_
    rintro e w1 ⟨rfl, hb⟩
    have hg1 := HG.out.later hb
    have HG1 := Lib.hid hg1
    obtain ⟨v1, hv1⟩ := hg1.ex
    have HV1 := Lib.hid hv1
    clear hb hg1 hv1 HG HC
    go_wp2_with fail
    refine (pw1_any _ wb v1 q (-1) w1 (by omega) (by omega) HV1.out).mono ?_
    rintro e w2 ⟨rfl, hk⟩
    have HG2 := Lib.hid (HG1.out.step HV1.out hk).pop
    clear hk
    go_wp2_with fail
    exact bodyPost_ret (v := .tuple #[]) (results_none rfl _ _ _) rfl ⟨rfl, HX.out ▸ HG2.out⟩
  | true =>
    have HX : Hid (R = wNum (L.foldl pHash (wNum q L.length 1)) need 1) := Lib.hid HR.out
    have hq1 := wNum_size q L.length 1
    have e1 : chkE true = 0 := rfl
    rw [e1] at HC
    clear HR e1
    go_enter Tryz.func149, Tryz.ntmps149
    go_wp2_with fail
    generalize w.alloc (.cells #[.slice s.ad L.length s.c, .int .i64 need] 24) = w1 at HC HG b0 b1 ⊢
    generalize w.heap.size = xb at HG b0 b1 ⊢
    refine HC.out.mono ?_
    rintro e w2 ⟨rfl, hb⟩
    have hg2 := HG.out.later hb
    have HG2 := Lib.hid hg2
    obtain ⟨v2, hv2⟩ := hg2.ex
    have HV2 := Lib.hid hv2
    clear b0 b1
    have b0 := cell_of_blk ((hg2.par _ (List.mem_cons_self)).1) 0 (v := .slice s.ad L.length s.c) rfl
    clear hb hg2 hv2 HG HC
    go_wp2_with fail
    refine (pw1_any _ wb v2 q L.length w2 (by omega) (by omega) HV2.out).mono ?_
    rintro e w3 ⟨rfl, hk⟩
    have hg3 := HG2.out.step HV2.out hk
    have HG3 := Lib.hid hg3
    clear b0
    have b0 := cell_of_blk ((hg3.par _ (List.mem_cons_self)).1) 0 (v := .slice s.ad L.length s.c) rfl
    clear hg3 hk HG2 HV2
    generalize wNum q L.length 1 = q1 at hq1 HG3 HX
    go_wp2_with fail
    clear b0
    go_loopw [19] (fun i wr => QlRel w0 wb ((xb, #[.slice s.ad L.length s.c, .int .i64 need], 24) :: Lp) q1 L i wr) (fun i _ => L.length - (intOf i).toNat)
    case atStart => exact ⟨0, Nat.zero_le _, rfl, HG3.out⟩
    case round =>
      clear HG3
      obtain ⟨k, hk, rfl, hG⟩ := hrel
      have HG := Lib.hid hG
      obtain ⟨v4, hv4⟩ := hG.ex
      have HV4 := Lib.hid hv4
      have b1 := cell_of_blk ((hG.par _ (List.mem_cons_self)).1) 1 (v := .int .i64 need) rfl
      clear hG hv4
      by_cases hlt : k < L.length
      case pos =>
        obtain ⟨pb, po, ea, c0⟩ := (HL.out.below HG.out.below) k L[k] (List.getElem?_eq_getElem hlt)
        have hzg := txZ_get L k hlt
        have hfs := foldH_size (L.take k) q1
        have htk : (L.take (k + 1)).foldl pHash q1 = pHash ((L.take k).foldl pHash q1) L[k] := by rw [List.take_succ_eq_append_getElem hlt, List.foldl_append]; rfl
        have HTk := Lib.hid htk
        have HEa := Lib.hid ea
        rw [ea]
        generalize L[k] = x at c0 hzg HTk
        generalize (L.take k).foldl pHash q1 = cur at HG HV4 HTk hfs
        have hk0 : (0 : Int) ≤ (k : Int) := Int.natCast_nonneg _
        have hk1 : (k : Int) < (L.length : Int) := by omega
        have hcz : cur.1.size + x.size ≤ 3000000000 := by omega
        clear htk hfs hzg ea b1
        go_wp2_with fail
        refine (phash_any _ wb v4 cur x wr (by omega) HV4.out).mono ?_
        rintro e w5 ⟨rfl, hk5⟩
        have HG5 := Lib.hid (HG.out.step HV4.out hk5)
        clear hk5
        go_wp2_with fail
        have hG5 := HG5.out
        rw [← HTk.out, HEa.out] at hG5
        refine ⟨⟨k + 1, hlt, rfl, hG5⟩, ?_⟩
        show L.length - ((k : Int) + 1).toNat < L.length - (k : Int).toNat
        omega
      case neg =>
        obtain rfl : k = L.length := by omega
        have hfin : L.take L.length = L := List.take_length
        rw [hfin] at HG HV4
        have hfs := foldH_size L q1
        generalize L.foldl pHash q1 = q2 at HG HV4 HX hfs
        go_wp2_with fail
        refine (pw1_any _ wb v4 q2 need wr HI.out (by omega) HV4.out).mono ?_
        rintro e w5 ⟨rfl, hk5⟩
        have HG5 := Lib.hid (HG.out.step HV4.out hk5).pop
        clear hk5
        go_wp2_with fail
        go_end0
        exact ⟨rfl, HX.out ▸ HG5.out⟩
end Go.Proofs.YtmejjphliaiamaaGreatDoor
