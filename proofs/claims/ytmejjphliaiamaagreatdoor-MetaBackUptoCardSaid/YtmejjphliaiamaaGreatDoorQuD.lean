import Derived.Test.YtmejjphliaiamaaGreatDoorQuB
import Derived.Test.YtmejjphliaiamaaGreatDoorPkC
set_option linter.unusedVariables false
set_option linter.unusedSimpArgs false
namespace Go.Proofs.YtmejjphliaiamaaGreatDoor
open Go Go.RowKit Go.Lib

/-! ### the reference lays signatures -/
set_option maxRecDepth 100000 in
set_option maxHeartbeats 1000000 in
theorem rwhash_any (B b : Nat) (v : Value) (q : WS) (s : ByteArray) (w : World) (hz : q.1.size ≤ 70368744000000) (hs : s.size ≤ 9223372036854775807) (h : Wr 101 B w b v q) :
    Calls Tryz.prog 62 #[.pointer (some ⟨b, 0, none⟩), .string s] w fun e w' => e = .returned (.tuple #[]) ∧ WrK 101 B b v w w' (rHash q s) := by
  unfold rHash
  by_cases h32 : (s.size : Int) = 32
  · have b1 : ((s.size : Int) == 32) = true := beq_iff_eq.2 h32
    have b2 : ((s.size : Int) != 32) = false := by rw [bne, b1]; rfl
    rw [if_neg (by omega)]
    have HW := Lib.hid h
    have c0 : w.cell? ⟨b, 0, none⟩ = some v := cell_of_blk h.blk 0 rfl
    have hne : v.ownBlock ≠ some b := HW.out.own.ne_blk HW.out.blk (by decide)
    clear h
    go_enter Tryz.func62, Tryz.ntmps62
    go_wp2_with (first | (at_builtin; refine wpList_appSw _ rfl rfl _ _ rfl B _ q.1 rfl HW.out.own s rfl ?_ HW.out.size ?_) | fail)
    · omega
    intro ao n' cap w2 ho hg hv
    have hb2 := grown_blk HW.out.blk hg hne
    have e0 : w2.cell? ⟨b, 0, none⟩ = some v := cell_of_blk hb2 0 rfl
    have e1 := blk_free hb2 0
    have HF := Lib.hid (wrk_app' HW.out (NewV.refl _ _) (Kp.refl _ _) (by decide) ho hg hv)
    clear ho hg hv hb2 hne
    go_wp2_with fail
    go_end0
    exact ⟨rfl, HF.out⟩
  · have b1 : ((s.size : Int) == 32) = false := beq_eq_false_iff_ne.2 h32
    have b2 : ((s.size : Int) != 32) = true := by rw [bne, b1]; rfl
    rw [if_pos (by omega)]
    have c1 : w.cell? ⟨b, 1, none⟩ = some (.bool q.2) := cell_of_blk h.blk 1 rfl
    have f1 := free_of_blk h.blk 1
    have HF := Lib.hid (wrk_bad h (by decide))
    clear h
    go_enter Tryz.func62, Tryz.ntmps62
    go_wp2_with fail
    refine bodyPost_ret (v := .tuple #[]) (results_none rfl _ _ _) rfl ⟨rfl, HF.out⟩
def rlayF (q : WS) : List SigT → WS
  | [] => q
  | x :: r => if q.2 = true then q else rlayF (rText (rHash q x.1) x.2) r
def rlayP (q : WS) (L : List SigT) : WS := rlayF (wNum q L.length 1) L
theorem rlayF_bad {q : WS} (h : q.2 = true) : ∀ L, rlayF q L = q
  | [] => rfl
  | x :: r => by rw [rlayF, if_pos h]
theorem rlayF_app : ∀ (L M : List SigT) (q : WS), rlayF q (L ++ M) = rlayF (rlayF q L) M
  | [], M, q => rfl
  | x :: r, M, q => by
    by_cases h : q.2 = true
    · rw [rlayF_bad h, rlayF_bad h, rlayF_bad h]
    · show rlayF q (x :: (r ++ M)) = _
      rw [rlayF, if_neg h, rlayF_app r M, rlayF, if_neg h]
theorem rText_size (q : WS) (s : ByteArray) : (rText q s).1.size ≤ q.1.size + 65537 := by
  unfold rText
  split
  · show q.1.size ≤ _; omega
  · unfold pText
    show ((wNum q s.size 2).1 ++ s).size ≤ _
    rw [ByteArray.size_append]
    have h := wNum_size q s.size 2
    omega
theorem rHash_size (q : WS) (s : ByteArray) : (rHash q s).1.size ≤ q.1.size + 32 := by
  unfold rHash
  split
  · show q.1.size ≤ _; omega
  · show (q.1 ++ s).size ≤ _
    rw [ByteArray.size_append]
    omega
theorem rlayF_size : ∀ (L : List SigT) (q : WS), (rlayF q L).1.size ≤ q.1.size + 65569 * L.length
  | [], q => Nat.le_add_right _ _
  | x :: r, q => by
    rw [rlayF]
    split
    · omega
    · have h1 := rlayF_size r (rText (rHash q x.1) x.2)
      have h2 := rText_size (rHash q x.1) x.2
      have h3 := rHash_size q x.1
      rw [List.length_cons]
      omega
theorem layP_bad {q : WS} (h : q.2 = true) (x : SigT) : (layP q x).2 = true := by
  have h1 : (pHash q x.1).2 = true := by unfold pHash; rw [h]; rfl
  unfold layP pText wNum
  split
  · rfl
  · exact h1
theorem foldP_bad : ∀ (L : List SigT) {q : WS} (h : q.2 = true), (L.foldl layP q).2 = true
  | [], q, h => h
  | x :: r, q, h => foldP_bad r (layP_bad h x)
theorem weq_lay : ∀ (L : List SigT) (p q : WS), WEq p q → WEq (L.foldl layP p) (rlayF q L)
  | [], p, q, h => h
  | x :: r, p, q, h => by
    by_cases hb : q.2 = true
    · rw [rlayF_bad hb]
      have hp : p.2 = true := h.1.trans hb
      have h2 := foldP_bad (x :: r) hp
      exact ⟨h2.trans hb.symm, fun h3 => absurd (h2.symm.trans h3) (by decide)⟩
    · rw [rlayF, if_neg hb]
      exact weq_lay r _ _ ((h.hash x.1).text x.2)
theorem weq_sigs {p q : WS} (h : WEq p q) (L : List SigT) : WEq (laySigsP p L) (rlayP q L) := weq_lay L _ _ (h.num _ _)
def LrRel (w0 : World) (b : Nat) (Lp : List (Nat × Array Value × TypeId)) (q : WS) (L : List SigT) (i : Value) (wr : World) : Prop := ∃ k : Nat, k ≤ L.length ∧ i = .int .i64 k ∧ WG 101 w0.heap.size w0 wr b Lp (rlayF q (L.take k))

set_option maxRecDepth 100000 in
set_option maxHeartbeats 2000000 in
theorem rlaysigs_any (w0 : World) (b : Nat) (Lp : List (Nat × Array Value × TypeId)) (q : WS) (ad : Option Addr) (L : List SigT) (c : Nat) (w : World) (hL : SigsM w0 ad L) (hn : L.length ≤ 1000000) (hz : q.1.size ≤ 1000000000) (hx : ∀ x ∈ L, x.1.size ≤ 1000000000 ∧ x.2.size ≤ 1000000000)
    (hG : WG 101 w0.heap.size w0 w b Lp q) :
    Calls Tryz.prog 52 #[.pointer (some ⟨b, 0, none⟩), .slice ad L.length c] w fun e w' => e = .returned (.tuple #[]) ∧ WG 101 w0.heap.size w0 w' b Lp (rlayP q L) := by
  have HL := Lib.hid hL
  have HG := Lib.hid hG
  have HX := Lib.hid hx
  obtain ⟨v, hv⟩ := hG.ex
  have HV := Lib.hid hv
  have hq1 := wNum_size q L.length 1
  clear hL hG hv hx
  have e0 : rlayP q L = rlayF (wNum q L.length 1) L := rfl
  rw [e0]
  clear e0
  go_enter Tryz.func52, Tryz.ntmps52
  go_wp2_with fail
  refine (rnum_any _ b v q L.length 1 w (by decide) (by omega) (by omega) HV.out).mono ?_
  rintro e w1 ⟨rfl, hk⟩
  have HG1 := Lib.hid (HG.out.step HV.out hk)
  clear hk HV HG
  generalize hE : wNum q L.length 1 = q1 at hq1 HG1
  have HE := Lib.hid hE
  clear hE
  go_wp2_with fail
  go_loopw [4] (fun i wr => LrRel w0 b Lp q1 L i wr) (fun i _ => L.length - (intOf i).toNat)
  case atStart => exact ⟨0, Nat.zero_le _, rfl, HG1.out⟩
  case round =>
    clear HG1
    obtain ⟨k, hk, rfl, hG⟩ := hrel
    have HG := Lib.hid hG
    obtain ⟨v2, hv2⟩ := hG.ex
    have HV2 := Lib.hid hv2
    have b1 : wr.cell? ⟨b, 1, none⟩ = some (.bool (rlayF q1 (L.take k)).2) := cell_of_blk hv2.blk 1 rfl
    clear hG hv2
    have hfs := rlayF_size (L.take k) q1
    rw [List.length_take] at hfs
    by_cases hlt : k < L.length
    · have hk1 : (k : Int) < (L.length : Int) := by omega
      have hk0 : (0 : Int) ≤ (k : Int) := Int.natCast_nonneg _
      have hend : (rlayF q1 (L.take k)).2 = true → rlayF q1 L = rlayF q1 (L.take k) := fun h => by
        conv => lhs; rw [← List.take_append_drop k L]
        rw [rlayF_app, rlayF_bad h]
      have htk : (rlayF q1 (L.take k)).2 = false → rlayF q1 (L.take (k + 1)) = rText (rHash (rlayF q1 (L.take k)) L[k].1) L[k].2 := fun h => by
        rw [List.take_succ_eq_append_getElem hlt, rlayF_app, rlayF, if_neg (by rw [h]; decide)]
        rfl
      obtain ⟨pb, po, rfl, s0, s1⟩ := (HL.out.below HG.out.below) k L[k] (List.getElem?_eq_getElem hlt)
      have HM := Lib.hid (HL.out.below HG.out.below k L[k] (List.getElem?_eq_getElem hlt))
      have hxx := HX.out L[k] (List.getElem_mem hlt)
      have HXk := Lib.hid (List.getElem?_eq_getElem hlt)
      have HTk := Lib.hid htk
      have HEnd := Lib.hid hend
      clear htk hend s1
      generalize L[k] = x at s0 HM HTk hxx HXk
      generalize rlayF q1 (L.take k) = cur at HG HV2 b1 HTk HEnd hfs
      obtain ⟨cs, cb⟩ := cur
      dsimp only at b1 hfs
      cases cb with
      | true =>
        have HF := Lib.hid (HEnd.out rfl)
        clear HTk HEnd HM
        go_wp2_with fail
        go_end0
        exact ⟨rfl, by rw [HE.out, HF.out]; exact HG.out⟩
      | false =>
        have HT := Lib.hid (HTk.out rfl)
        have hrh := rHash_size (cs, false) x.1
        dsimp only at hrh
        clear HTk HEnd
        go_wp2_with fail
        clear s0 b1
        refine (rwhash_any _ b v2 _ x.1 wr (by show cs.size ≤ _; omega) (by omega) HV2.out).mono ?_
        rintro e w3 ⟨rfl, hk3⟩
        have hG3 := HG.out.step HV2.out hk3
        have HG3 := Lib.hid hG3
        obtain ⟨v3, hv3⟩ := hG3.ex
        have HV3 := Lib.hid hv3
        have hs1 : w3.cell? ⟨pb, po + k * 2 + 1, none⟩ = some (.string x.2) := by
          obtain ⟨pb', po', e, -, s1'⟩ := (HL.out.below HG3.out.below) k x HXk.out
          cases e
          exact s1'
        clear hk3 hG3 hv3 HG HV2 HM
        generalize rHash (cs, false) x.1 = cur3 at HT HG3 HV3 hrh
        go_wp2_with fail
        clear hs1
        refine (rwtext_any _ b v3 _ x.2 w3 (by omega) (by omega) HV3.out).mono ?_
        rintro e w4 ⟨rfl, hk4⟩
        have HG4 := Lib.hid (HG3.out.step HV3.out hk4)
        clear hk4 HG3 HV3
        go_wp2_with fail
        refine ⟨⟨k + 1, hlt, rfl, ?_⟩, ?_⟩
        · rw [HT.out]
          exact HG4.out
        · show L.length - ((k : Int) + 1).toNat < L.length - (k : Int).toNat
          omega
    · obtain rfl : k = L.length := by omega
      have hfin : L.take L.length = L := List.take_length
      rw [hfin] at HG
      clear HV2 b1
      go_wp2_with fail
      go_end0
      exact ⟨rfl, HE.out ▸ HG.out⟩
end Go.Proofs.YtmejjphliaiamaaGreatDoor
