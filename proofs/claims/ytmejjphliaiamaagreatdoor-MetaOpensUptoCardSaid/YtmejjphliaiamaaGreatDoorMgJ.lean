import Derived.Test.YtmejjphliaiamaaGreatDoorMgG
import Derived.Test.YtmejjphliaiamaaGreatDoorMgC
set_option linter.unusedVariables false
set_option linter.unusedSimpArgs false
namespace Go.Proofs.YtmejjphliaiamaaGreatDoor
open Go Go.RowKit Go.Lib Go.Sort

/-! ### the document's answer: a document's bytes -/
abbrev WGr (w0 w : World) (b : Nat) (L : List (Nat × Array Value × TypeId)) (q : WS) : Prop := WG 101 w0.heap.size w0 w b L q
def e0W : WS := (⟨#[]⟩, false)
def qhP (p : PD) : WS := wApp (wApp (wApp e0W (numB p.kind 1)) (numB p.ver 2)) (numB p.exp 8)
theorem qhP_body (p : PD) : wApp (qhP p) (bodyB p) = (bytesP p, false) := by
  unfold qhP
  rw [wApp_app, wApp_app, wApp_app]
  unfold wApp e0W bytesP
  dsimp only
  rw [show (⟨#[]⟩ : ByteArray) ++ (numB p.kind 1 ++ (numB p.ver 2 ++ (numB p.exp 8 ++ bodyB p))) = _ from ByteArray.empty_append]
  simp only [ba_assoc]
theorem qhP_size (p : PD) : (qhP p).1.size = 11 := by
  unfold qhP
  rw [wApp_size, wApp_size, wApp_size, numB_size, numB_size, numB_size]
  rfl
def setsB (L : List SetT) : ByteArray := L.foldl (fun b S => b ++ setB S) ⟨#[]⟩
theorem setsB_take {L : List SetT} {k : Nat} (h : k < L.length) : setsB (L.take (k + 1)) = setsB (L.take k) ++ setB L[k] := by
  rw [List.take_succ_eq_append_getElem h]
  unfold setsB
  rw [List.foldl_append]
  rfl
theorem setsB_size : ∀ L : List SetT, (∀ S ∈ L, setGood S = true) → (setsB L).size ≤ 514 * L.length := by
  refine snoc_ind (fun _ => Nat.le_refl _) ?_
  intro L x ih h
  have h1 := ih (fun t ht => h t (by simp [ht]))
  have h2 := setB_size (h x (by simp))
  have e : setsB (L ++ [x]) = setsB L ++ setB x := by unfold setsB; rw [List.foldl_append]; rfl
  rw [e, ByteArray.size_append, List.length_append, List.length_singleton]
  omega
theorem wApp_nil (q : WS) : wApp q ⟨#[]⟩ = q := by unfold wApp; rw [show q.1 ++ (⟨#[]⟩ : ByteArray) = q.1 from ByteArray.append_empty]
def ReRel (w0 : World) (b : Nat) (Lp : List (Nat × Array Value × TypeId)) (q : WS) (L : List SetT) (i : Value) (wr : World) : Prop := ∃ k : Nat, k ≤ 4 ∧ i = .int .i64 k ∧ WGr w0 wr b Lp (wApp q (setsB (L.take k)))
def ReTg (w0 : World) (b : Nat) (Lp : List (Nat × Array Value × TypeId)) (q : WS) (L : List TgtT) (i : Value) (wr : World) : Prop := ∃ k : Nat, k ≤ L.length ∧ i = .int .i64 k ∧ WGr w0 wr b Lp (wApp q (tgB (L.take k)))

set_option maxRecDepth 100000 in
set_option maxHeartbeats 2000000 in
theorem rencode_all (p : PD) (d : DV) (w : World) (h : DocM w d p) (hf : EFit p) (hV : VarsP w) : Calls Tryz.prog 18 #[docV d] w fun e w' => e = .returned (.tuple #[.string (encD p).1, .int .i64 (encD p).2]) ∧ Below w.heap.size w w' := by
  have HCk := Lib.hid (fun W (hb : Below w.heap.size w W) => rcheck_all p d W (h.below hb) hf.c (hV.below hb))
  have hd : DocAt (w.alloc (.cells (docC d) 30)) w.heap.size d := blk_new _ _
  have hB : Below w.heap.size w (w.alloc (.cells (docC d) 30)) := (Below.refl _ w).alloc (Nat.le_refl _) _
  have HD0 := Lib.hid hd
  obtain ⟨w1, hw1⟩ : ∃ w1, w1 = w.alloc (.cells (docC d) 30) := ⟨_, rfl⟩
  rw [← hw1] at hd hB
  have HD := Lib.hid hd
  have HB := Lib.hid hB
  unfold docV at HCk ⊢
  clear hd hB
  by_cases hc : chkP p = 0
  case neg =>
    obtain ⟨e1, e2⟩ := enc_bad hc
    rw [e1]
    rw [e2] at HCk
    clear e1 e2 hc h hf hV
    go_enter Tryz.func18, Tryz.ntmps18
    go_wp2_with (first | refine wpList_doc rfl _ rfl w.heap.size d rfl HD0.out ?_ | fail)
    rw [← hw1]
    clear hw1 HD0
    refine (HCk.out w1 HB.out).mono ?_
    rintro e w2 ⟨rfl, hb2⟩
    have HB2 := Lib.hid (HB.out.trans (hb2.mono HB.out.size))
    clear hb2
    go_wp2_with fail
    go_ret2
    exact ⟨rfl, HB2.out⟩
  case pos =>
  have eok := enc_ok hc
  rw [eok]
  obtain ⟨hk, hv, hx, hg, -⟩ := chkP0 hc
  have hform := chk_form hc
  have hqb := qhP_body p
  have hqz := qhP_size p
  rw [hc] at HCk
  obtain ⟨a, c, rfl, hS, hT⟩ := h
  have HS := Lib.hid (sets_of (c := c) hS hf.c)
  have HT := Lib.hid hT
  have n1 : badN p.kind 1 = false := num1_ok (by omega) (by omega)
  have n2 : badN p.ver 2 = false := num2_ok (by omega) (by omega)
  have n3 : badN p.exp 8 = false := num8_ok hx.1
  have I1 := Lib.hid hf.kind
  have I2 := Lib.hid hf.ver
  have I3 := Lib.hid hf.exp
  clear eok hc hf hV hS hT
  go_enter Tryz.func18, Tryz.ntmps18
  go_wp2_with (first | refine wpList_doc rfl _ rfl w.heap.size _ rfl HD0.out ?_ | fail)
  rw [← hw1]
  clear hw1 HD0
  refine (HCk.out w1 HB.out).mono ?_
  rintro e w2 ⟨rfl, hb2⟩
  have HD2 : Hid (DocAt w2 w.heap.size (dvP p a c)) := Lib.hid (HD.out.later hb2)
  have HB2 := Lib.hid (HB.out.trans (hb2.mono HB.out.size))
  clear hb2 HB HD HCk
  have g0 := wg_new 101 (L := [(w.heap.size, docC (dvP p a c), 30)]) HB2.out HB2.out.size (fun x hx => by obtain rfl := List.mem_singleton.1 hx; exact ⟨HD2.out, show (30 : TypeId) ≠ 5 by decide⟩)
  obtain ⟨w3, hw3⟩ : ∃ w3, w3 = w2.alloc (.cells #[.slice none 0 0, .bool false] 101) := ⟨_, rfl⟩
  have c0 : (w2.alloc (.cells #[.slice none 0 0, .bool false] 101)).cell? ⟨w.heap.size, 0, none⟩ = some (.int .i64 p.kind) := cell_of_blk (g0.par _ (List.mem_singleton.2 rfl)).1 0 (v := .int .i64 p.kind) rfl
  rw [← hw3] at g0
  have G1 : Hid (WGr w w3 w2.heap.size [(w.heap.size, docC (dvP p a c), 30)] e0W) := Lib.hid g0
  obtain ⟨v1, hv⟩ := g0.ex
  have HV1 : Hid (Wr 101 w.heap.size w3 w2.heap.size v1 e0W) := Lib.hid hv
  clear g0 hv
  go_wp2_with fail
  rw [← hw3]
  clear hw3 c0
  have y0 : e0W.1.size = 0 := rfl
  have hc1 := rnum_any _ _ v1 e0W p.kind 1 w3 (by decide) I1.out (by omega) HV1.out
  rw [wApp_num e0W _ 1 n1] at hc1
  refine hc1.mono ?_
  rintro e w4 ⟨rfl, hk4⟩
  have hg := G1.out.step HV1.out hk4
  have G2 : Hid (WGr w w4 w2.heap.size [(w.heap.size, docC (dvP p a c), 30)] (wApp e0W (numB p.kind 1))) := Lib.hid hg
  have hd2 : DocAt w4 w.heap.size (dvP p a c) := (hg.par _ (List.mem_singleton.2 rfl)).1
  have c1 := cell_of_blk hd2 1 (v := .int .i64 p.ver) rfl
  have z1 := wApp_size e0W (numB p.kind 1)
  rw [numB_size] at z1
  obtain ⟨v2, hv2⟩ := hg.ex
  have HV2 := Lib.hid hv2
  clear hk4 hg hv2 hd2 G1 HV1 hc1
  go_wp2_with fail
  clear c1
  have hc1 := rnum_any _ _ v2 _ p.ver 2 w4 (by decide) I2.out (by omega) HV2.out
  rw [wApp_num _ _ 2 n2] at hc1
  refine hc1.mono ?_
  rintro e w5 ⟨rfl, hk5⟩
  have hg := G2.out.step HV2.out hk5
  have G3 : Hid (WGr w w5 w2.heap.size [(w.heap.size, docC (dvP p a c), 30)] (wApp (wApp e0W (numB p.kind 1)) (numB p.ver 2))) := Lib.hid hg
  have hd3 : DocAt w5 w.heap.size (dvP p a c) := (hg.par _ (List.mem_singleton.2 rfl)).1
  have c2 := cell_of_blk hd3 2 (v := .int .i64 p.exp) rfl
  have z2 := wApp_size (wApp e0W (numB p.kind 1)) (numB p.ver 2)
  rw [numB_size] at z2
  obtain ⟨v3, hv3⟩ := hg.ex
  have HV3 := Lib.hid hv3
  clear hk5 hg hv3 hd3 G2 HV2 hc1
  go_wp2_with fail
  clear c2
  have hc1 := rnum_any _ _ v3 _ p.exp 8 w5 (by decide) I3.out (by omega) HV3.out
  rw [wApp_num _ _ 8 n3] at hc1
  refine hc1.mono ?_
  rintro e w6 ⟨rfl, hk6⟩
  have hg := G3.out.step HV3.out hk6
  have G4 : Hid (WGr w w6 w2.heap.size [(w.heap.size, docC (dvP p a c), 30)] (qhP p)) := Lib.hid hg
  have hd4 : DocAt w6 w.heap.size (dvP p a c) := (hg.par _ (List.mem_singleton.2 rfl)).1
  have HD4 := Lib.hid hd4
  have c0 := cell_of_blk hd4 0 (v := .int .i64 p.kind) rfl
  obtain ⟨v4, hv4⟩ := hg.ex
  have HV4 : Hid (Wr 101 w.heap.size w6 w2.heap.size v4 (qhP p)) := Lib.hid hv4
  clear hk6 hg hv4 hd4 G3 HV3 hc1 z1 z2 y0 n1 n2 n3 I1 I2 I3 HD2 HB2
  generalize qhP p = q0 at hqb hqz G4 HV4
  generalize w2.heap.size = wb at G4 HV4 ⊢
  have HQB := Lib.hid hqb
  clear hqb
  have hkk : p.kind = 1 ∨ p.kind = 2 ∨ p.kind = 3 ∨ p.kind = 4 := by omega
  unfold bodyB at HQB
  unfold goodP at hg
  rcases hkk with k1 | k2 | k3 | k4
  case inl =>
    have b1 : (p.kind == 1) = true := beq_iff_eq.2 k1
    have b2 : (p.kind == 2) = false := beq_eq_false_iff_ne.2 (by omega)
    have b3 : (p.kind == 3) = false := beq_eq_false_iff_ne.2 (by omega)
    have b4 : (p.kind == 4) = false := beq_eq_false_iff_ne.2 (by omega)
    rw [if_pos k1] at HQB hg
    unfold rootGood at hg
    rw [Bool.and_eq_true] at hg
    obtain ⟨-, s2, -, -, s3⟩ := cpV_ok (of_decide_eq_true hg.1)
    have s2 : p.org.size ≤ 64 := s2
    have s3 : p.log.size = 32 := s3
    have hgood : ∀ S ∈ p.S, setGood S = true := List.all_eq_true.1 hg.2
    have HGd := Lib.hid hgood
    have eS : setsB (p.S.take 4) ++ setB p.s4 = setB p.s0 ++ (setB p.s1 ++ (setB p.s2 ++ (setB p.s3 ++ setB p.s4))) := by
      show setsB [p.s0, p.s1, p.s2, p.s3] ++ setB p.s4 = _
      unfold setsB
      simp only [List.foldl_cons, List.foldl_nil, ba_assoc]
      exact ByteArray.empty_append
    have HQ2 : Hid (wApp (wApp (wApp (wApp q0 (setsB (p.S.take 4))) (setB p.s4)) p.log) (numB p.org.size 2 ++ p.org) = (bytesP p, false)) := Lib.hid (by rw [wApp_app, wApp_app, wApp_app, ← HQB.out, ← eS]; simp only [ba_assoc])
    clear HQB
    have HQB := Lib.hid HQ2.out
    clear HQ2
    have hzall := setsB_size (p.S.take 4) (fun S hS => hgood S (List.mem_of_mem_take hS))
    have hl4 : (p.S.take 4).length = 4 := rfl
    clear k1 hform hg hgood eS
    go_wp2_with fail
    go_loopw [5] (fun i wr => ReRel w wb [(w.heap.size, docC (dvP p a c), 30)] q0 p.S i wr) (fun i _ => 4 - (intOf i).toNat)
    case atStart => exact ⟨0, Nat.zero_le _, rfl, by rw [show setsB (p.S.take 0) = ⟨#[]⟩ from rfl, wApp_nil]; exact G4.out⟩
    case round =>
      clear G4 HV4
      obtain ⟨k, hk', rfl, hG⟩ := hrel
      have HG := Lib.hid hG
      have hdr : DocAt wr w.heap.size (dvP p a c) := (hG.par _ (List.mem_singleton.2 rfl)).1
      have HDr := Lib.hid hdr
      clear hdr
      by_cases hlt : k < 4
      case pos =>
        have hl5 : k < p.S.length := by show k < 5; omega
        obtain ⟨s, hs, c1, c2⟩ := setA_at (dvP p a c) w.heap.size wr HDr.out k hlt
        obtain ⟨hsm, -⟩ := HS.out.2 k s p.S[k] hs (List.getElem?_eq_getElem hl5)
        have hgk := HGd.out p.S[k] (List.getElem_mem hl5)
        have htk : wApp q0 (setsB (p.S.take (k + 1))) = wApp (wApp q0 (setsB (p.S.take k))) (setB p.S[k]) := by rw [setsB_take hl5, wApp_app]
        have hzk := setsB_size (p.S.take k) (fun S hS => HGd.out S (List.mem_of_mem_take hS))
        have hlk : (p.S.take k).length ≤ 4 := by rw [List.length_take]; omega
        have hfs := wApp_size q0 (setsB (p.S.take k))
        generalize p.S[k] = S at hsm hgk htk
        generalize wApp q0 (setsB (p.S.take k)) = cur at HG htk hfs hG
        have HTk := Lib.hid htk
        have HC := Lib.hid (rqlay_ok w wb _ cur s S wr hsm hgk (by omega) hG)
        have hk0 : (0 : Int) ≤ (k : Int) := Int.natCast_nonneg _
        have hk1 : (k : Int) < 4 := by omega
        clear hsm hgk htk hs hG hzk hlk hfs
        go_wp2_with fail
        refine HC.out.mono ?_
        rintro e w8 ⟨rfl, hg8⟩
        rw [← HTk.out] at hg8
        have G8 := Lib.hid hg8
        clear hg8
        go_wp2_with fail
        refine ⟨⟨k + 1, hlt, rfl, G8.out⟩, ?_⟩
        show 4 - ((k : Int) + 1).toNat < 4 - (k : Int).toNat
        omega
      case neg =>
        obtain rfl : k = 4 := by omega
        obtain ⟨s, hs, c1, c2⟩ := setL_at (dvP p a c) w.heap.size wr HDr.out 4 (by decide)
        have c1' : wr.cell? ⟨w.heap.size, 11, none⟩ = some (.slice s.ad s.n s.c) := c1
        have c2' : wr.cell? ⟨w.heap.size, 12, none⟩ = some (.int .i64 s.need) := c2
        obtain ⟨hsm, -⟩ := HS.out.2 4 s p.s4 hs rfl
        have hgk := HGd.out p.s4 (by simp [PD.S])
        have hfs := wApp_size q0 (setsB (p.S.take 4))
        have z4 := setB_size hgk
        generalize wApp q0 (setsB (p.S.take 4)) = cur at HG hfs hG HQB
        have HC := Lib.hid (rqlay_ok w wb _ cur s p.s4 wr hsm hgk (by omega) hG)
        clear hsm hgk hs hG c1 c2
        go_wp2_with fail
        refine HC.out.mono ?_
        rintro e w8 ⟨rfl, hg8⟩
        have G8 := Lib.hid hg8
        have hd8 : DocAt w8 w.heap.size (dvP p a c) := (hg8.par _ (List.mem_singleton.2 rfl)).1
        have c13 := cell_of_blk hd8 13 (v := .string p.log) rfl
        obtain ⟨v8, hv8⟩ := hg8.ex
        have HV8 := Lib.hid hv8
        have z8 := wApp_size cur (setB p.s4)
        clear hg8 hd8 hv8 c1' c2' HG HC
        generalize wApp cur (setB p.s4) = r1 at G8 HV8 HQB z8
        go_wp2_with fail
        have hc1 := rwhash_any _ _ v8 r1 p.log w8 (by omega) (by omega) HV8.out
        rw [wApp_hash _ _ s3] at hc1
        refine hc1.mono ?_
        rintro e w9 ⟨rfl, hk9⟩
        have hg9 := G8.out.step HV8.out hk9
        have G9 := Lib.hid hg9
        have hd9 : DocAt w9 w.heap.size (dvP p a c) := (hg9.par _ (List.mem_singleton.2 rfl)).1
        have c14 := cell_of_blk hd9 14 (v := .string p.org) rfl
        obtain ⟨v9, hv9⟩ := hg9.ex
        have HV9 := Lib.hid hv9
        have z9 := wApp_size r1 p.log
        clear hg9 hd9 hv9 hc1 c13 G8 HV8 hk9
        generalize wApp r1 p.log = r2 at G9 HV9 HQB z9
        go_wp2_with fail
        have hc1 := rwtext_any _ _ v9 r2 p.org w9 (by omega) (by omega) HV9.out
        rw [wApp_text _ _ (by omega)] at hc1
        refine hc1.mono ?_
        rintro e w10 ⟨rfl, hk10⟩
        have hg10 := G9.out.step HV9.out hk10
        rw [HQB.out] at hg10
        have G10 := Lib.hid hg10
        obtain ⟨v10, hv10⟩ := hg10.ex
        have HV10 := Lib.hid hv10
        clear hg10 hv10 hc1 c14 G9 HV9 hk10
        go_wp2_with fail
        refine (rbytes_any _ wb v10 _ w10 HV10.out).mono ?_
        rintro e w12 ⟨rfl, rfl⟩
        have ew : wOut (bytesP p, false) = (bytesP p, 0) := rfl
        rw [ew]
        go_wp2_with fail
        go_ret2
        exact ⟨rfl, G10.out.below⟩
  case inr.inl =>
    have b1 : (p.kind == 1) = false := beq_eq_false_iff_ne.2 (by omega)
    have b2 : (p.kind == 2) = true := beq_iff_eq.2 k2
    have b3 : (p.kind == 3) = false := beq_eq_false_iff_ne.2 (by omega)
    have b4 : (p.kind == 4) = false := beq_eq_false_iff_ne.2 (by omega)
    rw [if_neg (show ¬ p.kind = 1 by omega), if_pos k2] at HQB hg
    unfold goodTg at hg
    rw [Bool.and_eq_true] at hg
    have hl : p.T.length ≤ 64 := of_decide_eq_true hg.2
    have hfit := tgsB_fit p.T 0 (by omega) hg.1
    have HFit := Lib.hid hfit
    unfold tgsBytes at HQB
    rw [← wApp_app] at HQB
    have c15 := cell_of_blk HD4.out 15 (v := .slice (a 5) p.T.length (c 5)) rfl
    clear k2 hform hg hfit
    go_wp2_with fail
    have hc1 := rnum_any _ _ v4 _ p.T.length 1 w6 (by decide) (by omega) (by omega) HV4.out
    rw [wApp_num _ _ 1 (num1_ok (by omega) (by omega))] at hc1
    refine hc1.mono ?_
    rintro e w7 ⟨rfl, hk7⟩
    have hg7 := G4.out.step HV4.out hk7
    have G5 := Lib.hid hg7
    have z1 := wApp_size q0 (numB p.T.length 1)
    rw [numB_size] at z1
    clear hk7 hg7 hc1 c15 G4 HV4
    generalize wApp q0 (numB p.T.length 1) = q1 at HQB G5 z1
    go_wp2_with fail
    go_loopw [6] (fun i wr => ReTg w wb [(w.heap.size, docC (dvP p a c), 30)] q1 p.T i wr) (fun i _ => p.T.length - (intOf i).toNat)
    case atStart => exact ⟨0, Nat.zero_le _, rfl, by rw [show tgB (p.T.take 0) = ⟨#[]⟩ from rfl, wApp_nil]; exact G5.out⟩
    case round =>
      clear G5
      obtain ⟨k, hk', rfl, hG⟩ := hrel
      have HG := Lib.hid hG
      have hdr : DocAt wr w.heap.size (dvP p a c) := (hG.par _ (List.mem_singleton.2 rfl)).1
      have c15 := cell_of_blk hdr 15 (v := .slice (a 5) p.T.length (c 5)) rfl
      obtain ⟨v5, hv5⟩ := hG.ex
      have HV5 := Lib.hid hv5
      clear hdr hv5 hG
      by_cases hlt : k < p.T.length
      case pos =>
        obtain ⟨pb, po, ea, s0, s1, s2⟩ := (HT.out.below HG.out.below) k p.T[k] (List.getElem?_eq_getElem hlt)
        have HEa := Lib.hid ea
        rw [ea] at c15 ⊢
        obtain ⟨f1, f2, f3, f4, f5⟩ := HFit.out p.T[k] (List.getElem_mem hlt)
        have hzk := tgB_size (p.T.take k) (fun t ht => HFit.out t (List.mem_of_mem_take ht))
        have hlk : (p.T.take k).length = k := by rw [List.length_take]; omega
        have htk : wApp q1 (tgB (p.T.take (k + 1))) = wApp (wApp (wApp (wApp q1 (tgB (p.T.take k))) (numB p.T[k].1 1)) (numB p.T[k].2.1 2)) p.T[k].2.2 := by
          rw [List.take_succ_eq_append_getElem hlt, tgB_snoc]
          unfold tgOne
          rw [wApp_app, wApp_app, wApp_app]
        have hfs := wApp_size q1 (tgB (p.T.take k))
        have HTk := Lib.hid htk
        have hcl : ∀ W, Below w.heap.size w W → W.cell? ⟨pb, po + k * 3 + 1, none⟩ = some (.int .i64 p.T[k].2.1) ∧ W.cell? ⟨pb, po + k * 3 + 2, none⟩ = some (.string p.T[k].2.2) := by
          intro W hb
          obtain ⟨pb', po', eb, -, t1, t2⟩ := (HT.out.below hb) k p.T[k] (List.getElem?_eq_getElem hlt)
          rw [ea] at eb
          cases eb
          exact ⟨t1, t2⟩
        have HCl := Lib.hid hcl
        generalize p.T[k] = t at s0 s1 s2 f1 f2 f3 f4 f5 HTk HCl
        generalize wApp q1 (tgB (p.T.take k)) = cur at HG HV5 HTk hfs
        have hk0 : (0 : Int) ≤ (k : Int) := Int.natCast_nonneg _
        have hk1 : (k : Int) < (p.T.length : Int) := by omega
        have hcz : cur.1.size ≤ 1000000 := by omega
        clear htk hfs ea hzk hlk s1 s2 hcl
        go_wp2_with fail
        clear s0
        have hc1 := rnum_any _ _ v5 cur t.1 1 wr (by decide) (by omega) (by omega) HV5.out
        rw [wApp_num _ _ 1 (num1_ok f1 f2)] at hc1
        refine hc1.mono ?_
        rintro e w8 ⟨rfl, hk8⟩
        have hg8 := HG.out.step HV5.out hk8
        have G6 := Lib.hid hg8
        have hd8 : DocAt w8 w.heap.size (dvP p a c) := (hg8.par _ (List.mem_singleton.2 rfl)).1
        have d15 := cell_of_blk hd8 15 (v := .slice (a 5) p.T.length (c 5)) rfl
        rw [HEa.out] at d15
        obtain ⟨t1, -⟩ := HCl.out w8 hg8.below
        have z8 := wApp_size cur (numB t.1 1)
        rw [numB_size] at z8
        obtain ⟨v6, hv6⟩ := hg8.ex
        have HV6 := Lib.hid hv6
        clear hk8 hg8 hd8 hv6 hc1 c15 HG HV5
        generalize wApp cur (numB t.1 1) = r1 at G6 HV6 HTk z8
        go_wp2_with fail
        clear t1 d15
        have hc1 := rnum_any _ _ v6 r1 t.2.1 2 w8 (by decide) (by omega) (by omega) HV6.out
        rw [wApp_num _ _ 2 (num2_ok f3 (by omega))] at hc1
        refine hc1.mono ?_
        rintro e w9 ⟨rfl, hk9⟩
        have hg9 := G6.out.step HV6.out hk9
        have G7 := Lib.hid hg9
        have hd9 : DocAt w9 w.heap.size (dvP p a c) := (hg9.par _ (List.mem_singleton.2 rfl)).1
        have d15 := cell_of_blk hd9 15 (v := .slice (a 5) p.T.length (c 5)) rfl
        rw [HEa.out] at d15
        obtain ⟨-, t2⟩ := HCl.out w9 hg9.below
        have z9 := wApp_size r1 (numB t.2.1 2)
        rw [numB_size] at z9
        obtain ⟨v7, hv7⟩ := hg9.ex
        have HV7 := Lib.hid hv7
        clear hk9 hg9 hd9 hv7 hc1 G6 HV6
        generalize wApp r1 (numB t.2.1 2) = r2 at G7 HV7 HTk z9
        go_wp2_with fail
        clear t2 d15
        have hc1 := rwhash_any _ _ v7 r2 t.2.2 w9 (by omega) (by omega) HV7.out
        rw [wApp_hash _ _ f5] at hc1
        refine hc1.mono ?_
        rintro e w10 ⟨rfl, hk10⟩
        have hg10 := G7.out.step HV7.out hk10
        rw [← HTk.out] at hg10
        have G8 := Lib.hid hg10
        clear hk10 hg10 hc1 G7 HV7
        go_wp2_with fail
        have hG8 := G8.out
        refine ⟨⟨k + 1, hlt, rfl, hG8⟩, ?_⟩
        show p.T.length - ((k : Int) + 1).toNat < p.T.length - (k : Int).toNat
        omega
      case neg =>
        obtain rfl : k = p.T.length := by omega
        have hG := HG.out
        rw [List.take_length, HQB.out] at hG
        have G6 := Lib.hid hG
        obtain ⟨v6, hv6⟩ := hG.ex
        have HV6 := Lib.hid hv6
        clear hv6 hG HG HV5
        go_wp2_with fail
        refine (rbytes_any _ wb v6 _ wr HV6.out).mono ?_
        rintro e w12 ⟨rfl, rfl⟩
        have ew : wOut (bytesP p, false) = (bytesP p, 0) := rfl
        rw [ew]
        go_wp2_with fail
        go_ret2
        exact ⟨rfl, G6.out.below⟩
  case inr.inr.inl =>
    have b1 : (p.kind == 1) = false := beq_eq_false_iff_ne.2 (by omega)
    have b2 : (p.kind == 2) = false := beq_eq_false_iff_ne.2 (by omega)
    have b3 : (p.kind == 3) = true := beq_iff_eq.2 k3
    have b4 : (p.kind == 4) = false := beq_eq_false_iff_ne.2 (by omega)
    rw [if_neg (show ¬ p.kind = 1 by omega), if_neg (show ¬ p.kind = 2 by omega), if_pos k3] at HQB hg
    unfold snGood tsGood at hg
    simp only [Bool.and_eq_true, decide_eq_true_eq] at hg
    obtain ⟨s1, s2, s3, s4, s5⟩ := cpV_ok hg.1
    obtain ⟨-, o1, o3⟩ := hg
    have s2 : p.pO.size ≤ 64 := s2
    have s3 : 0 ≤ p.pS := s3
    have s4 : p.pS ≤ 1024 := s4
    have s5 : p.pR.size = 32 := s5
    have o1 : 1 ≤ p.of ∧ p.of ≤ 65535 := o1
    have o3 : p.hash.size = 32 := o3
    rw [← wApp_app, ← wApp_app, ← wApp_app, ← wApp_app] at HQB
    have c19 := cell_of_blk HD4.out 19 (v := .int .i64 p.of) rfl
    clear k3 hform s1
    go_wp2_with fail
    have hc1 := rnum_any _ _ v4 _ p.of 2 w6 (by decide) (by omega) (by omega) HV4.out
    rw [wApp_num _ _ 2 (num2_ok (by omega) (by omega))] at hc1
    refine hc1.mono ?_
    rintro e w7 ⟨rfl, hk7⟩
    have hg7 := G4.out.step HV4.out hk7
    have G5 := Lib.hid hg7
    have hd5 : DocAt w7 w.heap.size (dvP p a c) := (hg7.par _ (List.mem_singleton.2 rfl)).1
    have c20 := cell_of_blk hd5 20 (v := .string p.hash) rfl
    have z1 := wApp_size q0 (numB p.of 2)
    rw [numB_size] at z1
    obtain ⟨v5, hv5⟩ := hg7.ex
    have HV5 := Lib.hid hv5
    clear hk7 hg7 hd5 hv5 hc1 c19 G4 HV4
    generalize wApp q0 (numB p.of 2) = q1 at HQB G5 HV5 z1
    go_wp2_with fail
    have hc1 := rwhash_any _ _ v5 _ p.hash w7 (by omega) (by omega) HV5.out
    rw [wApp_hash _ _ o3] at hc1
    refine hc1.mono ?_
    rintro e w8 ⟨rfl, hk8⟩
    have hg8 := G5.out.step HV5.out hk8
    have G6 := Lib.hid hg8
    have hd6 : DocAt w8 w.heap.size (dvP p a c) := (hg8.par _ (List.mem_singleton.2 rfl)).1
    have c16 := cell_of_blk hd6 16 (v := .string p.pO) rfl
    have z2 := wApp_size q1 p.hash
    obtain ⟨v6, hv6⟩ := hg8.ex
    have HV6 := Lib.hid hv6
    clear hk8 hg8 hd6 hv6 hc1 c20 G5 HV5
    generalize wApp q1 p.hash = q2 at HQB G6 HV6 z2
    go_wp2_with fail
    have hc1 := rwtext_any _ _ v6 _ p.pO w8 (by omega) (by omega) HV6.out
    rw [wApp_text _ _ (by omega)] at hc1
    refine hc1.mono ?_
    rintro e w9 ⟨rfl, hk9⟩
    have hg9 := G6.out.step HV6.out hk9
    have G7 := Lib.hid hg9
    have hd7 : DocAt w9 w.heap.size (dvP p a c) := (hg9.par _ (List.mem_singleton.2 rfl)).1
    have c17 := cell_of_blk hd7 17 (v := .int .i64 p.pS) rfl
    have z3 := wApp_size q2 (numB p.pO.size 2 ++ p.pO)
    rw [ByteArray.size_append, numB_size] at z3
    obtain ⟨v7, hv7⟩ := hg9.ex
    have HV7 := Lib.hid hv7
    clear hk9 hg9 hd7 hv7 hc1 c16 G6 HV6
    generalize wApp q2 (numB p.pO.size 2 ++ p.pO) = q3 at HQB G7 HV7 z3
    go_wp2_with fail
    have hc1 := rnum_any _ _ v7 _ p.pS 2 w9 (by decide) (by omega) (by omega) HV7.out
    rw [wApp_num _ _ 2 (num2_ok (by omega) (by omega))] at hc1
    refine hc1.mono ?_
    rintro e w10 ⟨rfl, hk10⟩
    have hg10 := G7.out.step HV7.out hk10
    have G8 := Lib.hid hg10
    have hd8 : DocAt w10 w.heap.size (dvP p a c) := (hg10.par _ (List.mem_singleton.2 rfl)).1
    have c18 := cell_of_blk hd8 18 (v := .string p.pR) rfl
    have z4 := wApp_size q3 (numB p.pS 2)
    rw [numB_size] at z4
    obtain ⟨v8, hv8⟩ := hg10.ex
    have HV8 := Lib.hid hv8
    clear hk10 hg10 hd8 hv8 hc1 c17 G7 HV7
    generalize wApp q3 (numB p.pS 2) = q4 at HQB G8 HV8 z4
    go_wp2_with fail
    have hc1 := rwhash_any _ _ v8 _ p.pR w10 (by omega) (by omega) HV8.out
    rw [wApp_hash _ _ s5] at hc1
    refine hc1.mono ?_
    rintro e w11 ⟨rfl, hk11⟩
    have hg11 := G8.out.step HV8.out hk11
    rw [HQB.out] at hg11
    have G9 := Lib.hid hg11
    obtain ⟨v9, hv9⟩ := hg11.ex
    have HV9 := Lib.hid hv9
    clear hk11 hg11 hv9 hc1 c18 G8 HV8
    go_wp2_with fail
    refine (rbytes_any _ wb v9 _ w11 HV9.out).mono ?_
    rintro e w12 ⟨rfl, rfl⟩
    have ew : wOut (bytesP p, false) = (bytesP p, 0) := rfl
    rw [ew]
    go_wp2_with fail
    go_ret2
    exact ⟨rfl, G9.out.below⟩
  case inr.inr.inr =>
    have b1 : (p.kind == 1) = false := beq_eq_false_iff_ne.2 (by omega)
    have b2 : (p.kind == 2) = false := beq_eq_false_iff_ne.2 (by omega)
    have b3 : (p.kind == 3) = false := beq_eq_false_iff_ne.2 (by omega)
    have b4 : (p.kind == 4) = true := beq_iff_eq.2 k4
    rw [if_neg (show ¬ p.kind = 1 by omega), if_neg (show ¬ p.kind = 2 by omega), if_neg (show ¬ p.kind = 3 by omega)] at HQB hg
    unfold tsGood at hg
    simp only [Bool.and_eq_true, decide_eq_true_eq] at hg
    rw [← wApp_app] at HQB
    have c19 := cell_of_blk HD4.out 19 (v := .int .i64 p.of) rfl
    clear k4 hform
    go_wp2_with fail
    have hc1 := rnum_any _ _ v4 _ p.of 2 w6 (by decide) (by omega) (by omega) HV4.out
    rw [wApp_num _ _ 2 (num2_ok (by omega) (by omega))] at hc1
    refine hc1.mono ?_
    rintro e w7 ⟨rfl, hk7⟩
    have hg7 := G4.out.step HV4.out hk7
    have G5 := Lib.hid hg7
    have hd5 : DocAt w7 w.heap.size (dvP p a c) := (hg7.par _ (List.mem_singleton.2 rfl)).1
    have c20 := cell_of_blk hd5 20 (v := .string p.hash) rfl
    have z1 := wApp_size q0 (numB p.of 2)
    rw [numB_size] at z1
    obtain ⟨v5, hv5⟩ := hg7.ex
    have HV5 := Lib.hid hv5
    clear hk7 hg7 hd5 hv5 hc1 c19 G4 HV4
    go_wp2_with fail
    have hc1 := rwhash_any _ _ v5 _ p.hash w7 (by omega) (by omega) HV5.out
    rw [wApp_hash _ _ hg.2] at hc1
    refine hc1.mono ?_
    rintro e w8 ⟨rfl, hk8⟩
    have hg8 := G5.out.step HV5.out hk8
    rw [HQB.out] at hg8
    have G6 := Lib.hid hg8
    obtain ⟨v6, hv6⟩ := hg8.ex
    have HV6 := Lib.hid hv6
    clear hk8 hg8 hv6 hc1 c20 G5 HV5
    go_wp2_with fail
    refine (rbytes_any _ wb v6 _ w8 HV6.out).mono ?_
    rintro e w9 ⟨rfl, rfl⟩
    have ew : wOut (bytesP p, false) = (bytesP p, 0) := rfl
    rw [ew]
    go_wp2_with fail
    go_ret2
    exact ⟨rfl, G6.out.below⟩

/-! ### what is read is told again -/
theorem beL_app (a : List UInt8) : ∀ b : List UInt8, beL (a ++ b) = beL a * 256 ^ b.length + beL b := by
  refine snoc_ind (by rw [List.append_nil, List.length_nil, Nat.pow_zero, Nat.mul_one]; rfl) ?_
  intro b c ih
  rw [← List.append_assoc, beL_snoc, beL_snoc, ih, List.length_append, List.length_singleton, Nat.pow_succ]
  rw [Nat.mul_add, ← Nat.mul_assoc, Nat.mul_comm 256 (beL a), Nat.mul_assoc, Nat.mul_comm 256 (256 ^ b.length), ← Nat.mul_assoc, Nat.add_assoc, Nat.mul_assoc]
theorem numTop_beL (l : List UInt8) (n : Nat) (hl : l.length = n) : ∀ k, k ≤ n → (numTop (beL l : Nat) n k).data.toList = l.take k
  | 0, _ => by rw [List.take_zero]; rfl
  | k + 1, hk => by
    have ih := numTop_beL l n hl k (by omega)
    have hd : (numTop (beL l : Nat) n (k + 1)).data.toList = (numTop (beL l : Nat) n k).data.toList ++ [b8 ((beL l : Nat) / ((256 ^ (n - 1 - k) : Nat) : Int))] := by
      show (numTop (beL l : Nat) n k ++ oneB ((beL l : Nat) / ((256 ^ (n - 1 - k) : Nat) : Int))).data.toList = _
      rw [ByteArray.data_append, Array.toList_append]
      rfl
    rw [hd, ih]
    have hlt : k < l.length := by omega
    rw [List.take_succ_eq_append_getElem hlt]
    congr 1
    have h1 := beL_app (l.take (k + 1)) (l.drop (k + 1))
    rw [List.take_append_drop, List.length_drop] at h1
    have h2 := beL_lt (l.drop (k + 1))
    rw [List.length_drop] at h2
    have h3 : beL (l.take (k + 1)) = 256 * beL (l.take k) + l[k].toNat := by rw [List.take_succ_eq_append_getElem hlt, beL_snoc]
    have he : l.length - (k + 1) = n - 1 - k := by omega
    rw [he] at h1 h2
    have hp : 0 < (256 : Nat) ^ (n - 1 - k) := Nat.pow_pos (by decide)
    have hq : beL l / 256 ^ (n - 1 - k) = beL (l.take (k + 1)) := by
      rw [h1, Nat.mul_comm, Nat.mul_add_div hp, Nat.div_eq_of_lt h2, Nat.add_zero]
    have hb : ((beL l : Nat) : Int) / ((256 ^ (n - 1 - k) : Nat) : Int) = ((256 * beL (l.take k) + l[k].toNat : Nat) : Int) := by
      rw [← h3, ← hq]
      exact (Int.natCast_ediv _ _).symm
    rw [hb]
    have hc := l[k].toNat_lt
    have hx := b8_toNat ((256 * beL (l.take k) + l[k].toNat : Nat) : Int)
    have : b8 ((256 * beL (l.take k) + l[k].toNat : Nat) : Int) = l[k] := by
      apply UInt8.toNat_inj.1
      omega
    rw [this]
theorem numB_beV (v : ByteArray) : numB (beV v) v.size = v := by
  apply WideShapes.bytes_inj
  unfold numB beV
  have h := numTop_beL v.data.toList v.size (ba_len v) v.size (Nat.le_refl _)
  rw [h]
  exact List.take_of_length_le (by rw [ba_len]; exact Nat.le_refl _)
def Inv {α : Type} (f : RS → α × RS) (piece : α → ByteArray) : Prop := ∀ b, (f (b, 0)).2.2 = 0 → b = piece (f (b, 0)).1 ++ (f (b, 0)).2.1
theorem raw_inv (b : ByteArray) (n : Nat) (h : (rRaw (b, 0) n).2.2 = 0) : b = (rRaw (b, 0) n).1 ++ (rRaw (b, 0) n).2.1 ∧ (rRaw (b, 0) n).1.size = n := by
  unfold rRaw at h ⊢
  rw [if_neg (show ¬ ((0 : Int) ≠ 0) by decide), if_neg (by omega)] at h ⊢
  by_cases hs : ((b.size : Nat) : Int) < (n : Int)
  · rw [if_pos hs] at h
    exact absurd (show (2 : Int) = 0 from h) (by decide)
  · rw [if_neg hs]
    dsimp only
    rw [Int.toNat_natCast]
    refine ⟨?_, by rw [ByteArray.size_extract]; omega⟩
    apply WideShapes.bytes_inj
    rw [ByteArray.data_append, Array.toList_append, extract_data, extract_data, List.drop_zero, Nat.sub_zero]
    rw [List.take_of_length_le (l := b.data.toList.drop n) (by rw [List.length_drop, ba_len]; exact Nat.le_refl _), List.take_append_drop]
theorem inv_raw (n : Nat) : Inv (fun r => rRaw r n) (fun v => v) := fun b h => (raw_inv b n h).1
theorem inv_num (n : Nat) : Inv (fun r => rNum r n) (fun x => numB x n) := fun b h => by
  obtain ⟨h1, h2⟩ := raw_inv b n h
  show b = numB (beV (rRaw (b, 0) n).1) n ++ (rRaw (b, 0) n).2.1
  have h3 := numB_beV (rRaw (b, 0) n).1
  rw [h2] at h3
  rw [h3]
  exact h1
theorem inv_8 : Inv rEight (fun x => numB x 8) := fun b h => by
  have ht : ¬ topBad b = true := fun ht => by
    have : (rEight (b, 0)).2.2 ≠ 0 := by
      unfold rEight
      rw [if_pos (show topBad (b, (0 : Int)).1 = true from ht)]
      refine kps_num 8 _ ?_
      exact rFail_bad _ (by decide)
    exact this h
  have e : rEight (b, 0) = rNum (b, 0) 8 := by unfold rEight; rw [if_neg ht]
  rw [e] at h ⊢
  exact inv_num 8 b h
theorem inv_txt (most : Int) : Inv (fun r => rTxt r most) (fun v => numB v.size 2 ++ v) := fun b h => by
  dsimp only at h ⊢
  have hr : (rRaw (rTxt2 (b, 0) most) (rNum (b, 0) 2).1).2.2 = 0 := by
    refine Classical.byContradiction fun hn => ?_
    exact (rTxt_res b most).2 hn h
  have h2 : (rTxt2 (b, 0) most).2 = 0 := by
    refine Classical.byContradiction fun hn => ?_
    rw [rRaw_err hn] at hr
    exact hn hr
  have h3 : (rNum (b, 0) 2).2.2 = 0 ∧ rTxt2 (b, 0) most = (rNum (b, 0) 2).2 := by
    unfold rTxt2 at h2 ⊢
    split at h2
    · rename_i hc
      exact absurd h2 (rFail_bad _ (by decide))
    · rename_i hc
      rw [if_neg hc]
      exact ⟨h2, rfl⟩
  have hn := inv_num 2 b h3.1
  dsimp only at hn
  rw [show ((2 : Nat) : Int) = 2 from rfl] at hn
  have hres : rTxt (b, 0) most = rRaw (rNum (b, 0) 2).2 (rNum (b, 0) 2).1 := by
    unfold rTxt
    rw [if_neg (show ¬ ((0 : Int) ≠ 0) by decide), if_neg (fun hh => hh hr), h3.2]
  rw [h3.2] at hr
  rw [hres]
  obtain ⟨n, hn1⟩ : ∃ n : Nat, (rNum (b, 0) 2).1 = n := ⟨_, rfl⟩
  rw [hn1] at hn hr ⊢
  have hst : (rNum (b, 0) 2).2 = ((rNum (b, 0) 2).2.1, 0) := Prod.ext rfl h3.1
  rw [hst] at hr ⊢
  obtain ⟨g1, g2⟩ := raw_inv (rNum (b, 0) 2).2.1 n hr
  rw [g2, ba_assoc, ← g1]
  exact hn
section
variable {α β γ : Type}
theorem Inv.pair {f : RS → α × RS} {h : RS → β × RS} {p : α → ByteArray} {q : β → ByteArray} (h1 : Inv f p) (h2 : Inv h q) (k2 : Kps h) : Inv (fun r => (((f r).1, (h (f r).2).1), (h (f r).2).2)) (fun x => p x.1 ++ q x.2) := fun b hb => by
  dsimp only at hb ⊢
  have e0 : (f (b, 0)).2.2 = 0 := Classical.byContradiction fun hn => k2 _ hn hb
  have e1 := h1 b e0
  have hst : (f (b, 0)).2 = ((f (b, 0)).2.1, 0) := Prod.ext rfl e0
  rw [hst] at hb
  have e2 := h2 _ hb
  rw [hst, ba_assoc, ← e2]
  exact e1
theorem Inv.map {f : RS → α × RS} {p : α → ByteArray} (h1 : Inv f p) (F : α → γ) {q : γ → ByteArray} (hq : ∀ a, q (F a) = p a) : Inv (fun r => (F (f r).1, (f r).2)) q := fun b hb => by
  dsimp only at hb ⊢
  rw [hq]
  exact h1 b hb
end
theorem inv_oneT : Inv oneT tgOne := by
  have h := Inv.pair (inv_num 1) (Inv.pair (inv_num 2) (inv_raw 32) (kps_raw 32)) (Kps.pair (kps_num 2) (kps_raw 32))
  exact h
theorem inv_takeTN : ∀ k, Inv (fun r => takeTN r k) tgB
  | 0 => fun b h => by show b = (⟨#[]⟩ : ByteArray) ++ b; exact ByteArray.empty_append.symm
  | k + 1 => by
    have h := (Inv.pair (inv_takeTN k) inv_oneT kps_oneT).map (fun x => x.1 ++ [x.2]) (q := tgB) (fun a => tgB_snoc a.1 a.2)
    exact h
theorem inv_takeTg : Inv takeTg tgsBytes := fun b hb => by
  obtain ⟨n, hn, h255⟩ := rNum1 (b, 0)
  have e : takeTg (b, 0) = takeTN (rNum (b, 0) 1).2 n := by unfold takeTg; rw [hn]; rfl
  rw [e] at hb ⊢
  have e0 : (rNum (b, 0) 1).2.2 = 0 := Classical.byContradiction fun hh => kps_takeTN n _ hh hb
  have e1 := inv_num 1 b e0
  dsimp only at e1
  have hl := takeTN_len (rNum (b, 0) 1).2 n
  have hst : (rNum (b, 0) 1).2 = ((rNum (b, 0) 1).2.1, 0) := Prod.ext rfl e0
  unfold tgsBytes
  rw [hl]
  rw [show ((1 : Nat) : Int) = 1 from rfl, hn] at e1
  generalize (rNum (b, 0) 1).2.1 = c at hst e1
  rw [hst] at hb ⊢
  have e2 := inv_takeTN n c hb
  dsimp only at e2
  rw [ba_assoc, ← e2]
  exact e1
theorem inv_takeIN : ∀ k, Inv (fun r => takeIN r k) idB
  | 0 => fun b h => by show b = (⟨#[]⟩ : ByteArray) ++ b; exact ByteArray.empty_append.symm
  | k + 1 => by
    have h := (Inv.pair (inv_takeIN k) (inv_raw 32) (kps_raw 32)).map (fun x => x.1 ++ [x.2]) (q := idB) (fun a => idB_snoc a.1 a.2)
    exact h
theorem inv_takeSet : Inv takeSetP setB := fun b hb => by
  have hF : (tsF (b, 0)).2 = 0 := hb
  have hv : takeSetP (b, 0) = (((tsA (b, 0)).1, (tsB (b, 0)).1), tsF (b, 0)) := by unfold takeSetP; rw [if_pos hF]
  have hgd : setGood ((tsA (b, 0)).1, (tsB (b, 0)).1) = true ∧ tsF (b, 0) = (tsB (b, 0)).2 := by
    unfold tsF at hF ⊢
    split at hF
    · rename_i hc; rw [if_pos hc]; exact ⟨hc, rfl⟩
    · exact absurd hF (rFail_bad _ (by decide))
  rw [hv, hgd.2]
  rw [hgd.2] at hF
  clear hb hv hgd
  obtain ⟨n, hn, h255⟩ := rNum1 (b, 0)
  have eA : tsA (b, 0) = takeIN (rNum (b, 0) 1).2 n := by unfold tsA; rw [hn]; rfl
  have eB : tsB (b, 0) = rNum (tsA (b, 0)).2 1 := rfl
  rw [eB] at hF ⊢
  have eA0 : (tsA (b, 0)).2.2 = 0 := Classical.byContradiction fun hh => kps_num 1 _ hh hF
  rw [eA] at eA0 hF ⊢
  have e0 : (rNum (b, 0) 1).2.2 = 0 := Classical.byContradiction fun hh => kps_takeIN n _ hh eA0
  have e1 := inv_num 1 b e0
  dsimp only at e1
  have hl := takeIN_len (rNum (b, 0) 1).2 n
  have hst : (rNum (b, 0) 1).2 = ((rNum (b, 0) 1).2.1, 0) := Prod.ext rfl e0
  rw [show ((1 : Nat) : Int) = 1 from rfl, hn] at e1
  generalize (rNum (b, 0) 1).2.1 = c at hst e1
  rw [hst] at eA0 hF hl ⊢
  have e2 := inv_takeIN n c eA0
  dsimp only at e2
  have hst2 : (takeIN (c, 0) n).2 = ((takeIN (c, 0) n).2.1, 0) := Prod.ext rfl eA0
  generalize (takeIN (c, 0) n).1 = L at e2 hl ⊢
  generalize (takeIN (c, 0) n).2.1 = d at hst2 e2
  rw [hst2] at hF ⊢
  have e3 := inv_num 1 d hF
  dsimp only at e3
  unfold setB
  dsimp only
  rw [hl, show numB (rNum (d, 0) 1).1 1 ++ (⟨#[]⟩ : ByteArray) = numB (rNum (d, 0) 1).1 1 from ByteArray.append_empty, ba_assoc, ba_assoc]
  rw [show ((1 : Nat) : Int) = 1 from rfl] at e3
  rw [← e3, ← e2]
  exact e1
theorem setsB_snoc (L : List SetT) (x : SetT) : setsB (L ++ [x]) = setsB L ++ setB x := by unfold setsB; rw [List.foldl_append]; rfl
theorem inv_takeRN : ∀ k, Inv (fun r => takeRN r k) setsB
  | 0 => fun b h => by show b = (⟨#[]⟩ : ByteArray) ++ b; exact ByteArray.empty_append.symm
  | k + 1 => by
    have h := (Inv.pair (inv_takeRN k) inv_takeSet kps_takeSet).map (fun x => x.1 ++ [x.2]) (q := setsB) (fun a => setsB_snoc a.1 a.2)
    exact h
theorem inv_root : Inv (fun r => (((takeRN r 5).1, (rt2 r).1, (rt3 r).1), (rt3 r).2)) (fun x => setsB x.1 ++ (x.2.1 ++ (numB x.2.2.size 2 ++ x.2.2))) := by
  have i32 : Inv (fun r => rRaw r 32) (fun v => v) := inv_raw 32
  have h := Inv.pair (inv_takeRN 5) (Inv.pair i32 (inv_txt 64) (kps_txt 64)) (Kps.pair (kps_raw 32) (kps_txt 64))
  intro b hb
  have hb2 := h b
  dsimp only at hb hb2 ⊢
  unfold rt3 rt2 at hb
  unfold rt3 rt2
  generalize takeRN (b, 0) 5 = A at hb hb2 ⊢
  exact hb2 hb
theorem inv_ts : Inv (fun r => (((ts1 r).1, (ts2 r).1), (ts2 r).2)) (fun x => numB x.1 2 ++ x.2) := by
  have h := Inv.pair (inv_num 2) (inv_raw 32) (kps_raw 32)
  intro b hb
  have hb2 := h b
  dsimp only at hb hb2 ⊢
  unfold ts2 ts1 at hb ⊢
  exact hb2 hb
theorem inv_sn : Inv (fun r => (((ts1 r).1, (ts2 r).1, (sn1 r).1, (sn2 r).1, (sn3 r).1), (sn3 r).2)) (fun x => numB x.1 2 ++ (x.2.1 ++ ((numB x.2.2.1.size 2 ++ x.2.2.1) ++ (numB x.2.2.2.1 2 ++ x.2.2.2.2)))) := by
  have kde := Kps.pair (kps_num 2) (kps_raw 32)
  have kcde := Kps.pair (kps_txt 64) kde
  have kbcde := Kps.pair (kps_raw 32) kcde
  have h := Inv.pair (inv_num 2) (Inv.pair (inv_raw 32) (Inv.pair (inv_txt 64) (Inv.pair (inv_num 2) (inv_raw 32) (kps_raw 32)) kde) kcde) kbcde
  intro b hb
  have hb2 := h b
  dsimp only at hb hb2 ⊢
  unfold sn3 sn2 sn1 ts2 ts1 at hb ⊢
  exact hb2 hb
/-- a document's fields behind its head. -/
theorem inv_body (p0 : PD) (hk : 1 ≤ p0.kind ∧ p0.kind ≤ 4) : Inv (bodyP p0) bodyB := by
  have a := inv_root
  have b := inv_takeTg
  have c := inv_sn
  have d := inv_ts
  by_cases h1 : p0.kind = 1
  · have e : bodyP p0 = fun r => (({ p0 with s0 := nthS (takeRN r 5).1 0, s1 := nthS (takeRN r 5).1 1, s2 := nthS (takeRN r 5).1 2, s3 := nthS (takeRN r 5).1 3, s4 := nthS (takeRN r 5).1 4, log := (rt2 r).1, org := (rt3 r).1 } : PD), (rt3 r).2) := by
      funext r
      unfold bodyP
      rw [if_pos h1]
    rw [e]
    intro s hs
    have h := a s
    have hl := takeRN_len (s, 0) 5
    dsimp only at hs h ⊢
    generalize takeRN (s, 0) 5 = A at h hl ⊢
    generalize rt2 (s, 0) = B at h ⊢
    generalize rt3 (s, 0) = C at h hs ⊢
    have h2 := h hs
    obtain ⟨A1, A2⟩ := A
    obtain ⟨x0, x1, x2, x3, x4, hx⟩ := five hl
    dsimp only at hx h2 ⊢
    rw [hx] at h2 ⊢
    unfold bodyB
    rw [if_pos (show p0.kind = 1 from h1)]
    have eS : setsB [x0, x1, x2, x3, x4] = setB x0 ++ (setB x1 ++ (setB x2 ++ (setB x3 ++ setB x4))) := by
      unfold setsB
      simp only [List.foldl_cons, List.foldl_nil, ba_assoc]
      exact ByteArray.empty_append
    rw [eS] at h2
    exact h2
  · by_cases h2 : p0.kind = 2
    · have e : bodyP p0 = fun r => (({ p0 with T := (takeTg r).1 } : PD), (takeTg r).2) := by
        funext r
        unfold bodyP
        rw [if_neg h1, if_pos h2]
      rw [e]
      intro s hs
      have h := b s
      dsimp only at hs h ⊢
      unfold bodyB
      rw [if_neg (show ¬ p0.kind = 1 from h1), if_pos (show p0.kind = 2 from h2)]
      exact h hs
    · by_cases h3 : p0.kind = 3
      · have e : bodyP p0 = fun r => (({ p0 with of := (ts1 r).1, hash := (ts2 r).1, pO := (sn1 r).1, pS := (sn2 r).1, pR := (sn3 r).1 } : PD), (sn3 r).2) := by
          funext r
          unfold bodyP
          rw [if_neg h1, if_neg h2, if_pos h3]
        rw [e]
        intro s hs
        have h := c s
        dsimp only at hs h ⊢
        unfold bodyB
        rw [if_neg (show ¬ p0.kind = 1 from h1), if_neg (show ¬ p0.kind = 2 from h2), if_pos (show p0.kind = 3 from h3)]
        exact h hs
      · have h4 : p0.kind = 4 := by omega
        have e : bodyP p0 = fun r => (({ p0 with of := (ts1 r).1, hash := (ts2 r).1 } : PD), (ts2 r).2) := by
          funext r
          unfold bodyP
          rw [if_neg h1, if_neg h2, if_neg h3, if_pos h4]
        rw [e]
        intro s hs
        have h := d s
        dsimp only at hs h ⊢
        unfold bodyB
        rw [if_neg (show ¬ p0.kind = 1 from h1), if_neg (show ¬ p0.kind = 2 from h2), if_neg (show ¬ p0.kind = 3 from h3)]
        exact h hs
theorem body_head (p0 : PD) (r : RS) : (bodyP p0 r).1.kind = p0.kind ∧ (bodyP p0 r).1.ver = p0.ver ∧ (bodyP p0 r).1.exp = p0.exp := by
  unfold bodyP
  generalize takeRN r 5 = A
  generalize rt2 r = B
  generalize rt3 r = C
  by_cases h1 : p0.kind = 1
  · rw [if_pos h1]; exact ⟨rfl, rfl, rfl⟩
  · rw [if_neg h1]
    by_cases h2 : p0.kind = 2
    · rw [if_pos h2]; exact ⟨rfl, rfl, rfl⟩
    · rw [if_neg h2]
      by_cases h3 : p0.kind = 3
      · rw [if_pos h3]; exact ⟨rfl, rfl, rfl⟩
      · rw [if_neg h3]
        by_cases h4 : p0.kind = 4
        · rw [if_pos h4]; exact ⟨rfl, rfl, rfl⟩
        · rw [if_neg h4]; exact ⟨rfl, rfl, rfl⟩
/-- what is read is told as it was. -/
theorem dec_again {b : ByteArray} {p : PD} (h : decD b = (p, 0)) : chkP p = 0 ∧ encD p = (b, 0) := by
  unfold decD at h
  by_cases hc : (rEnd (decB b).2).2 ≠ 0 ∨ chkP (decB b).1 ≠ 0
  · rw [if_pos hc] at h
    exact absurd (congrArg Prod.snd h) (show ¬ (3 : Int) = 0 by decide)
  · rw [if_neg hc] at h
    have hp : (decB b).1 = p := congrArg Prod.fst h
    have he : (rEnd (decB b).2).2 = 0 := Classical.byContradiction fun hh => hc (.inl hh)
    have hk : chkP (decB b).1 = 0 := Classical.byContradiction fun hh => hc (.inr hh)
    rw [hp] at hk
    refine ⟨hk, ?_⟩
    rw [enc_ok hk]
    have h0 : (decB b).2.2 = 0 ∧ (decB b).2.1.size = 0 := by
      unfold rEnd at he
      split at he
      · exact absurd he (rFail_bad _ (by decide))
      · rename_i hz
        exact ⟨he, by omega⟩
    obtain ⟨hkk, -, -, -, -⟩ := chkP0 hk
    obtain ⟨j1, j2, j3⟩ := body_head (headP b) (rC b).2
    have hh : (rC b).2.2 = 0 := Classical.byContradiction fun hn => kps_body (headP b) _ hn h0.1
    have hst : (rC b).2 = ((rC b).2.1, 0) := Prod.ext rfl hh
    have k0 : (headP b).kind = p.kind := by rw [← j1]; show (decB b).1.kind = _; rw [hp]
    have i1 := Inv.pair (inv_num 1) (Inv.pair (inv_num 2) inv_8 kps_8) (Kps.pair (kps_num 2) kps_8)
    have i1b := i1 b hh
    dsimp only at i1b
    have i1c : b = (numB (rA b).1 1 ++ (numB (rB b).1 2 ++ numB (rC b).1 8)) ++ (rC b).2.1 := i1b
    have i2 := inv_body (headP b) (by omega) (rC b).2.1 (by rw [← hst]; exact h0.1)
    rw [← hst] at i2
    have i2c : (rC b).2.1 = bodyB (decB b).1 ++ (decB b).2.1 := i2
    have hz : (decB b).2.1 = ⟨#[]⟩ := ByteArray.size_eq_zero_iff.1 h0.2
    rw [hz, show bodyB (decB b).1 ++ (⟨#[]⟩ : ByteArray) = bodyB (decB b).1 from ByteArray.append_empty, hp] at i2c
    have e1 : (rA b).1 = p.kind := k0
    have e2 : (rB b).1 = p.ver := by rw [← hp]; exact j2.symm
    have e3 : (rC b).1 = p.exp := by rw [← hp]; exact j3.symm
    rw [e1, e2, e3, i2c] at i1c
    rw [i1c]
    rfl
end Go.Proofs.YtmejjphliaiamaaGreatDoor
