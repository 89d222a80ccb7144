import Derived.Test.YtmejjphliaiamaaGreatDoorSl
import Derived.Test.YtmejjphliaiamaaGreatDoorSgS
import Derived.Deep.QuietTactic
import Derived.BigQuiet
import Derived.StillTail
import Derived.Lib.QuietBelow
import Derived.Laws.Cover1
set_option linter.unusedVariables false
set_option linter.unusedSimpArgs false
namespace Go.Proofs.YtmejjphliaiamaaGreatDoor
open Go Go.RowKit Go.Lib Go.Sort

/-! ### sets of keys, and whether they are good -/
structure SV where
  ad : Option Addr
  n : Nat
  c : Nat
  need : Int
def chkE (b : Bool) : Int := if b = true then 0 else 1
def TxM (w : World) (ad : Option Addr) (L : List ByteArray) : Prop := ∀ i t, L[i]? = some t → ∃ pb po, ad = some ⟨pb, po, none⟩ ∧ w.cell? ⟨pb, po + i, none⟩ = some (.string t)
theorem TxM.below {w w' : World} {ad : Option Addr} {L : List ByteArray} (h : TxM w ad L) (k : Below w.heap.size w w') : TxM w' ad L := by
  intro i f hf
  obtain ⟨pb, po, e, h1⟩ := h i f hf
  exact ⟨pb, po, e, (k.cell (cell_lt h1)).trans h1⟩
abbrev SetT := List ByteArray × Int
def SetM (w : World) (s : SV) (S : SetT) : Prop := s.n = S.1.length ∧ s.need = S.2 ∧ TxM w s.ad S.1
theorem SetM.below {w w' : World} {s : SV} {S : SetT} (h : SetM w s S) (k : Below w.heap.size w w') : SetM w' s S := ⟨h.1, h.2.1, h.2.2.below k⟩
def leB (a b : ByteArray) : Bool := Op.bytesLess a.toList b.toList || a.toList == b.toList
def idAt (L : List ByteArray) (j : Nat) : Bool := decide ((L.getD j ⟨#[]⟩).size = 32) && (decide (j = 0) || !leB (L.getD j ⟨#[]⟩) (L.getD (j - 1) ⟨#[]⟩))
def setGood (S : SetT) : Bool := decide (1 ≤ S.1.length ∧ S.1.length ≤ 16 ∧ 1 ≤ S.2 ∧ S.2 ≤ S.1.length) && (List.range S.1.length).all (idAt S.1)
def QcRel (L : List ByteArray) (w0 : World) (i : Value) (wr : World) : Prop := ∃ k : Nat, k ≤ L.length ∧ i = .int .i64 k ∧ (List.range k).all (idAt L) = true ∧ w0 = wr
theorem range_all_snoc (L : List ByteArray) (k : Nat) : (List.range (k + 1)).all (idAt L) = ((List.range k).all (idAt L) && idAt L k) := by rw [List.range_succ, List.all_append]; simp
theorem range_all_bad {L : List ByteArray} {k n : Nat} (hk : k < n) (h : idAt L k = false) : (List.range n).all (idAt L) = false := by
  rw [Bool.eq_false_iff]
  intro h2
  have := List.all_eq_true.1 h2 k (List.mem_range.2 hk)
  rw [h] at this
  cases this

set_option maxRecDepth 100000 in
set_option maxHeartbeats 4000000 in
theorem qcheck_any (s : SV) (S : SetT) (w : World) (hS : SetM w s S) (hm : S.1.length ≤ 100000000) : Calls Tryz.prog 87 #[.agg #[.slice s.ad s.n s.c, .int .i64 s.need]] w fun e w' => e = .returned (.int .i64 (chkE (setGood S))) ∧ Below w.heap.size w w' := by
  obtain ⟨s1, s2, s3⟩ := hS
  rw [s1, s2]
  obtain ⟨L, need⟩ := S
  dsimp only at *
  obtain ⟨R, hR⟩ : ∃ R, R = chkE (setGood (L, need)) := ⟨_, rfl⟩
  rw [← hR]
  unfold setGood at hR
  dsimp only at hR
  have HL := Lib.hid s3
  have HR := Lib.hid hR
  have hB : ∀ o, Below w.heap.size w (w.alloc o) := fun o => (Below.refl _ w).alloc (Nat.le_refl _) o
  clear s1 s2 s3 hR
  by_cases h1 : (L.length : Int) < 1
  · have HX : Hid (R = 1) := Lib.hid (by rw [HR.out, decide_eq_false (fun h => by omega)]; rfl)
    go_enter Tryz.func87, Tryz.ntmps87
    go_wp2_with fail
    go_ret
    rw [HX.out]
    exact ⟨rfl, hB _⟩
  by_cases h2 : 16 < (L.length : Int)
  · have HX : Hid (R = 1) := Lib.hid (by rw [HR.out, decide_eq_false (fun h => by omega)]; rfl)
    go_enter Tryz.func87, Tryz.ntmps87
    go_wp2_with fail
    go_ret
    rw [HX.out]
    exact ⟨rfl, hB _⟩
  by_cases h3 : need < 1
  · have HX : Hid (R = 1) := Lib.hid (by rw [HR.out, decide_eq_false (fun h => by omega)]; rfl)
    go_enter Tryz.func87, Tryz.ntmps87
    go_wp2_with fail
    go_ret
    rw [HX.out]
    exact ⟨rfl, hB _⟩
  by_cases h4 : (L.length : Int) < need
  · have HX : Hid (R = 1) := Lib.hid (by rw [HR.out, decide_eq_false (fun h => by omega)]; rfl)
    go_enter Tryz.func87, Tryz.ntmps87
    go_wp2_with fail
    go_ret
    rw [HX.out]
    exact ⟨rfl, hB _⟩
  have hR2 : R = chkE ((List.range L.length).all (idAt L)) := by rw [HR.out, decide_eq_true ⟨by omega, by omega, by omega, by omega⟩]; rfl
  have HR2 := Lib.hid hR2
  clear hR2 HR
  have hb1 := blk_new w (.cells #[.slice s.ad L.length s.c, .int .i64 need] 24)
  have hK := hB (.cells #[.slice s.ad L.length s.c, .int .i64 need] 24)
  go_enter Tryz.func87, Tryz.ntmps87
  go_wp2_with fail
  generalize w.alloc (.cells #[.slice s.ad L.length s.c, .int .i64 need] 24) = w1 at hb1 hK ⊢
  have HK := Lib.hid hK
  have HLw := Lib.hid (HL.out.below hK)
  have b0 := cell_of_blk hb1 0 (v := .slice s.ad L.length s.c) rfl
  clear hb1 hK HL
  go_loopw [31] (fun i wr => QcRel L w1 i wr) (fun i _ => L.length - (intOf i).toNat)
  case atStart => exact ⟨0, Nat.zero_le _, rfl, rfl, rfl⟩
  case round =>
    obtain ⟨k, hk, rfl, ha, rfl⟩ := hrel
    have HA := Lib.hid ha
    clear ha
    by_cases hlt : k < L.length
    case pos =>
      obtain ⟨pb, po, ea, c0⟩ := HLw.out k L[k] (List.getElem?_eq_getElem hlt)
      have hgd : L.getD k ⟨#[]⟩ = L[k] := by rw [List.getD_eq_getElem?_getD, List.getElem?_eq_getElem hlt]; rfl
      have hst := range_all_snoc L k
      have hbad : idAt L k = false → R = 1 := fun h => by rw [HR2.out, range_all_bad hlt h]; rfl
      have hok : idAt L k = true → (List.range (k + 1)).all (idAt L) = true := fun h => by rw [hst, HA.out, h]; rfl
      have HBad := Lib.hid hbad
      have HOk := Lib.hid hok
      have hk0 : (0 : Int) ≤ (k : Int) := Int.natCast_nonneg _
      have hk1 : (k : Int) < (L.length : Int) := by omega
      rw [ea] at b0 ⊢
      clear hst hbad hok
      by_cases h32 : (L[k].size : Int) = 32
      case neg =>
        have HX := Lib.hid (HBad.out (by unfold idAt; rw [hgd, decide_eq_false (fun h => h32 (by omega))]; rfl))
        generalize L[k] = x at c0 h32
        have b1 : ((x.size : Int) == 32) = false := beq_eq_false_iff_ne.2 h32
        have b2 : ((x.size : Int) != 32) = true := by rw [bne, b1]; rfl
        clear hgd h32 HBad HOk
        go_wp2_with fail
        go_ret
        rw [HX.out]
        exact ⟨rfl, HK.out⟩
      case pos =>
        have b1 : ((L[k].size : Int) == 32) = true := beq_iff_eq.2 h32
        have b2 : ((L[k].size : Int) != 32) = false := by rw [bne, b1]; rfl
        by_cases hz : k = 0
        case pos =>
          have HX := Lib.hid (HOk.out (by unfold idAt; rw [hgd, decide_eq_true (show L[k].size = 32 by omega), decide_eq_true hz]; rfl))
          generalize L[k] = x at c0 b1 b2
          have hz' : ¬ (0 : Int) < (k : Int) := by omega
          clear hgd h32 HBad HOk hz
          go_wp2_with fail
          refine ⟨⟨k + 1, hlt, rfl, HX.out, rfl⟩, ?_⟩
          show L.length - ((k : Int) + 1).toNat < L.length - (k : Int).toNat
          omega
        case neg =>
          obtain ⟨j, rfl⟩ : ∃ j, k = j + 1 := ⟨k - 1, by omega⟩
          have hj : j < L.length := by omega
          obtain ⟨pb2, po2, eb, p0⟩ := HLw.out j L[j] (List.getElem?_eq_getElem hj)
          rw [ea] at eb
          cases eb
          have hgp : L.getD (j + 1 - 1) ⟨#[]⟩ = L[j] := by rw [Nat.add_sub_cancel, List.getD_eq_getElem?_getD, List.getElem?_eq_getElem hj]; rfl
          have hid : idAt L (j + 1) = !leB L[j + 1] L[j] := by
            unfold idAt
            rw [hgd, hgp, decide_eq_true (show L[j + 1].size = 32 by omega), decide_eq_false (show ¬ j + 1 = 0 by omega)]
            rfl
          rw [hid] at HBad HOk
          unfold leB at HBad HOk
          generalize L[j + 1] = x at c0 b1 b2 HBad HOk
          generalize L[j] = y at p0 HBad HOk
          have hz' : (0 : Int) < ((j + 1 : Nat) : Int) := by omega
          have hsub : ((j + 1 : Nat) : Int) - 1 = (j : Int) := by omega
          have hwr : IntKind.i64.wrap (j : Int) = (j : Int) := IntWalk.i64_in _ (by omega)
          have hj1 : (j : Int) < (L.length : Int) := by omega
          clear hgd hgp hid h32 hz
          cases hq : (Op.bytesLess x.toList y.toList || x.toList == y.toList) with
          | true =>
            rw [hq] at HBad
            have HX := Lib.hid (HBad.out rfl)
            clear HBad HOk
            go_wp2_with fail
            go_ret
            rw [HX.out]
            exact ⟨rfl, HK.out⟩
          | false =>
            rw [hq] at HOk
            have HX := Lib.hid (HOk.out rfl)
            clear HBad HOk
            go_wp2_with fail
            refine ⟨⟨j + 1 + 1, hlt, rfl, HX.out, rfl⟩, ?_⟩
            show L.length - (((j + 1 : Nat) : Int) + 1).toNat < L.length - ((j + 1 : Nat) : Int).toNat
            omega
    case neg =>
      obtain rfl : k = L.length := by omega
      have hX : R = 0 := by rw [HR2.out, HA.out]; rfl
      have HX := Lib.hid hX
      clear hX
      go_wp2_with fail
      go_ret
      rw [HX.out]
      exact ⟨rfl, HK.out⟩

/-! ### a set laid -/
theorem le_not_lt : ∀ (a b : List UInt8), (Op.bytesLess a b || a == b) = !Op.bytesLess b a
  | [], [] => rfl
  | [], b :: y => rfl
  | a :: x, [] => rfl
  | a :: x, b :: y => by
    have ih := le_not_lt x y
    have e1 : Op.bytesLess (a :: x) (b :: y) = (decide (a < b) || (a == b && Op.bytesLess x y)) := rfl
    have e2 : Op.bytesLess (b :: y) (a :: x) = (decide (b < a) || (b == a && Op.bytesLess y x)) := rfl
    have e3 : (a :: x == b :: y) = (a == b && x == y) := rfl
    rw [e1, e2, e3]
    by_cases h : a = b
    · subst h
      have h1 : decide (a < a) = false := decide_eq_false (by rw [UInt8.lt_iff_toNat_lt]; omega)
      rw [h1, beq_self_eq_true]
      simpa using ih
    · have h1 : (a == b) = false := beq_eq_false_iff_ne.2 h
      have h2 : (b == a) = false := beq_eq_false_iff_ne.2 (fun e => h e.symm)
      rw [h1, h2]
      have hn : a.toNat ≠ b.toNat := fun e => h (UInt8.toNat_inj.1 e)
      by_cases h3 : a < b
      · rw [decide_eq_true h3, decide_eq_false (by rw [UInt8.lt_iff_toNat_lt] at h3 ⊢; omega)]; rfl
      · rw [decide_eq_false h3, decide_eq_true (by rw [UInt8.lt_iff_toNat_lt] at h3 ⊢; omega)]; rfl
def RcRel (L : List ByteArray) (w0 : World) (i : Value) (wr : World) : Prop := ∃ k : Nat, k ≤ L.length ∧ i = .int .i64 k ∧ (List.range k).all (idAt L) = true ∧ Below w0.heap.size w0 wr

set_option maxRecDepth 100000 in
set_option maxHeartbeats 1000000 in
theorem rqcheck_any (s : SV) (S : SetT) (w : World) (hS : SetM w s S) (hm : S.1.length ≤ 100000000) : Calls Tryz.prog 90 #[.agg #[.slice s.ad s.n s.c, .int .i64 s.need]] w fun e w' => e = .returned (.int .i64 (chkE (setGood S))) ∧ Below w.heap.size w w' := by
  obtain ⟨s1, s2, s3⟩ := hS
  rw [s1, s2]
  obtain ⟨L, need⟩ := S
  dsimp only at *
  obtain ⟨R, hR⟩ : ∃ R, R = chkE (setGood (L, need)) := ⟨_, rfl⟩
  rw [← hR]
  unfold setGood at hR
  dsimp only at hR
  have HL := Lib.hid s3
  have HR := Lib.hid hR
  have hB : ∀ o, Below w.heap.size w (w.alloc o) := fun o => (Below.refl _ w).alloc (Nat.le_refl _) o
  clear s1 s2 s3 hR
  by_cases h1 : (L.length : Int) < 1
  · have HX : Hid (R = 1) := Lib.hid (by rw [HR.out, decide_eq_false (fun h => by omega)]; rfl)
    go_enter Tryz.func90, Tryz.ntmps90
    go_wp2_with fail
    go_ret
    rw [HX.out]
    exact ⟨rfl, hB _⟩
  by_cases h2 : 16 < (L.length : Int)
  · have HX : Hid (R = 1) := Lib.hid (by rw [HR.out, decide_eq_false (fun h => by omega)]; rfl)
    go_enter Tryz.func90, Tryz.ntmps90
    go_wp2_with fail
    go_ret
    rw [HX.out]
    exact ⟨rfl, hB _⟩
  by_cases h3 : need < 1
  · have HX : Hid (R = 1) := Lib.hid (by rw [HR.out, decide_eq_false (fun h => by omega)]; rfl)
    go_enter Tryz.func90, Tryz.ntmps90
    go_wp2_with fail
    go_ret
    rw [HX.out]
    exact ⟨rfl, hB _⟩
  by_cases h4 : (L.length : Int) < need
  · have HX : Hid (R = 1) := Lib.hid (by rw [HR.out, decide_eq_false (fun h => by omega)]; rfl)
    go_enter Tryz.func90, Tryz.ntmps90
    go_wp2_with fail
    go_ret
    rw [HX.out]
    exact ⟨rfl, hB _⟩
  have hR2 : R = chkE ((List.range L.length).all (idAt L)) := by rw [HR.out, decide_eq_true ⟨by omega, by omega, by omega, by omega⟩]; rfl
  have HR2 := Lib.hid hR2
  clear hR2 HR
  have hb1 := blk_new w (.cells #[.slice s.ad L.length s.c, .int .i64 need] 24)
  have hK := hB (.cells #[.slice s.ad L.length s.c, .int .i64 need] 24)
  go_enter Tryz.func90, Tryz.ntmps90
  go_wp2_with fail
  generalize w.alloc (.cells #[.slice s.ad L.length s.c, .int .i64 need] 24) = w1 at hb1 hK ⊢
  have HK := Lib.hid hK
  have HLw := Lib.hid (HL.out.below hK)
  have HB1 := Lib.hid hb1
  clear hb1 hK HL
  go_loopw [3] (fun i wr => RcRel L w1 i wr) (fun i _ => L.length - (intOf i).toNat)
  case atStart => exact ⟨0, Nat.zero_le _, rfl, rfl, Below.refl _ _⟩
  case round =>
    obtain ⟨k, hk, rfl, ha, hbr⟩ := hrel
    have HA := Lib.hid ha
    have HBr := Lib.hid hbr
    have HKr := Lib.hid (HK.out.trans (hbr.mono HK.out.size))
    have HLr := Lib.hid (HLw.out.below hbr)
    have b0 := cell_of_blk (blk_later HB1.out hbr) 0 (v := .slice s.ad L.length s.c) rfl
    clear ha hbr
    by_cases hlt : k < L.length
    case pos =>
      obtain ⟨pb, po, ea, c0⟩ := HLr.out k L[k] (List.getElem?_eq_getElem hlt)
      have hgd : L.getD k ⟨#[]⟩ = L[k] := by rw [List.getD_eq_getElem?_getD, List.getElem?_eq_getElem hlt]; rfl
      have hst := range_all_snoc L k
      have hbad : idAt L k = false → R = 1 := fun h => by rw [HR2.out, range_all_bad hlt h]; rfl
      have hok : idAt L k = true → (List.range (k + 1)).all (idAt L) = true := fun h => by rw [hst, HA.out, h]; rfl
      have HBad := Lib.hid hbad
      have HOk := Lib.hid hok
      have hk0 : (0 : Int) ≤ (k : Int) := Int.natCast_nonneg _
      have hk1 : (k : Int) < (L.length : Int) := by omega
      rw [ea] at b0 ⊢
      have b0r := cell_regrown b0
      have hmono : ∀ w5, Below wr.heap.size wr w5 → Below w1.heap.size w1 w5 := fun w5 h => HBr.out.trans (h.mono HBr.out.size)
      have HMono := Lib.hid hmono
      clear hst hbad hok hmono
      by_cases h32 : (L[k].size : Int) = 32
      case neg =>
        have HX := Lib.hid (HBad.out (by unfold idAt; rw [hgd, decide_eq_false (fun h => h32 (by omega))]; rfl))
        generalize L[k] = x at c0 h32
        have b1 : ((x.size : Int) == 32) = false := beq_eq_false_iff_ne.2 h32
        have b2 : ((x.size : Int) != 32) = true := by rw [bne, b1]; rfl
        have c0r := cell_regrown c0
        clear hgd h32 HBad HOk
        go_wp2_with fail
        go_quiet (fail)
        have hb5 : Below wr.heap.size wr (wr.drewN nq) := ⟨rfl, rfl, rfl, Nat.le_refl _, fun _ _ => rfl⟩
        generalize wr.drewN nq = w5 at hb5 ⊢
        have H5 := Lib.hid (HKr.out.trans (hb5.mono HKr.out.size))
        clear hb5 c0r b0r c0 b0
        go_wp2_with fail
        go_ret
        rw [HX.out]
        exact ⟨rfl, H5.out⟩
      case pos =>
        have b1 : ((L[k].size : Int) == 32) = true := beq_iff_eq.2 h32
        have b2 : ((L[k].size : Int) != 32) = false := by rw [bne, b1]; rfl
        by_cases hz : k = 0
        case pos =>
          have HX := Lib.hid (HOk.out (by unfold idAt; rw [hgd, decide_eq_true (show L[k].size = 32 by omega), decide_eq_true hz]; rfl))
          generalize L[k] = x at c0 b1 b2
          have hz' : decide (0 < k) = false := decide_eq_false (by omega)
          have c0r := cell_regrown c0
          clear hgd h32 HBad HOk hz
          go_wp2_with fail
          go_quiet (fail)
          have hb5 : Below wr.heap.size wr (wr.drewN nq) := ⟨rfl, rfl, rfl, Nat.le_refl _, fun _ _ => rfl⟩
          generalize wr.drewN nq = w5 at hb5 ⊢
          have H5 := Lib.hid (HMono.out w5 hb5)
          clear hb5 c0r b0r c0 b0 hz'
          go_wp2_with fail
          refine ⟨⟨k + 1, hlt, rfl, HX.out, H5.out⟩, ?_⟩
          show L.length - ((k : Int) + 1).toNat < L.length - (k : Int).toNat
          omega
        case neg =>
          obtain ⟨j, rfl⟩ : ∃ j, k = j + 1 := ⟨k - 1, by omega⟩
          have hj : j < L.length := by omega
          obtain ⟨pb2, po2, eb, p0⟩ := HLr.out j L[j] (List.getElem?_eq_getElem hj)
          rw [ea] at eb
          cases eb
          have hgp : L.getD (j + 1 - 1) ⟨#[]⟩ = L[j] := by rw [Nat.add_sub_cancel, List.getD_eq_getElem?_getD, List.getElem?_eq_getElem hj]; rfl
          have hid : idAt L (j + 1) = !leB L[j + 1] L[j] := by
            unfold idAt
            rw [hgd, hgp, decide_eq_true (show L[j + 1].size = 32 by omega), decide_eq_false (show ¬ j + 1 = 0 by omega)]
            rfl
          rw [hid] at HBad HOk
          unfold leB at HBad HOk
          rw [le_not_lt, Bool.not_not] at HBad HOk
          generalize L[j + 1] = x at c0 b1 b2 HBad HOk
          generalize L[j] = y at p0 HBad HOk
          have hz' : decide ((0 : Int) < ((j + 1 : Nat) : Int)) = true := decide_eq_true (by omega)
          have hsub : ((j + 1 : Nat) : Int) - 1 = (j : Int) := by omega
          have hwr : IntKind.i64.wrap (j : Int) = (j : Int) := IntWalk.i64_in _ (by omega)
          have hj1 : (j : Int) < (L.length : Int) := by omega
          have hj0 : (0 : Int) ≤ (j : Int) := Int.natCast_nonneg _
          have c0r := cell_regrown c0
          have p0r := cell_regrown p0
          clear hgd hgp hid h32 hz
          generalize hq : Op.bytesLess y.toList x.toList = q at HBad HOk
          go_wp2_with fail
          go_quiet (fail)
          have hb5 : Below wr.heap.size wr (wr.drewN nq) := ⟨rfl, rfl, rfl, Nat.le_refl _, fun _ _ => rfl⟩
          generalize wr.drewN nq = w5 at hb5 ⊢
          have H5 := Lib.hid (HMono.out w5 hb5)
          have H5k := Lib.hid (HKr.out.trans (hb5.mono HKr.out.size))
          clear hb5 c0r b0r c0 b0 p0 p0r hz'
          cases q with
          | false =>
            have HX := Lib.hid (HBad.out rfl)
            clear HBad HOk
            go_wp2_with fail
            go_ret
            rw [HX.out]
            exact ⟨rfl, H5k.out⟩
          | true =>
            have HX := Lib.hid (HOk.out rfl)
            clear HBad HOk
            go_wp2_with fail
            refine ⟨⟨j + 1 + 1, hlt, rfl, HX.out, H5.out⟩, ?_⟩
            show L.length - (((j + 1 : Nat) : Int) + 1).toNat < L.length - ((j + 1 : Nat) : Int).toNat
            omega
    case neg =>
      obtain rfl : k = L.length := by omega
      have hX : R = 0 := by rw [HR2.out, HA.out]; rfl
      have HX := Lib.hid hX
      clear hX
      go_wp2_with fail
      go_ret
      rw [HX.out]
      exact ⟨rfl, HKr.out⟩

/-! ### a good set laid: the document's answer -/
end Go.Proofs.YtmejjphliaiamaaGreatDoor
