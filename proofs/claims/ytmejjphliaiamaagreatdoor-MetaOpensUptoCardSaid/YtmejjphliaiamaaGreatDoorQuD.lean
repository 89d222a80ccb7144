import Derived.Test.YtmejjphliaiamaaGreatDoorQuA
import Derived.Test.YtmejjphliaiamaaGreatDoorSg
import Derived.Test.YtmejjphliaiamaaGreatDoorPkE
import Derived.Test.YtmejjphliaiamaaGreatDoorPkC
set_option linter.unusedVariables false
set_option linter.unusedSimpArgs false
namespace Go.Proofs.YtmejjphliaiamaaGreatDoor
open Go Go.RowKit Go.Lib

/-! ### signatures laid -/
theorem WG.push {T : TypeId} {B : Nat} {w0 w : World} {b : Nat} {L : List (Nat × Array Value × TypeId)} {q : WS} (H : WG T B w0 w b L q) (cs : Array Value) (t : TypeId) (ht : t ≠ 5) (hB : B ≤ w.heap.size) : WG T B w0 (w.alloc (.cells cs t)) b ((w.heap.size, cs, t) :: L) q := by
  obtain ⟨v, hv⟩ := H.ex
  have hl := H.later ((Below.refl _ w).alloc (Nat.le_refl _) (.cells cs t))
  refine ⟨hl.ex, fun x hx => ?_, hl.below, hl.hb⟩
  rcases List.mem_cons.1 hx with rfl | hx
  · exact ⟨blk_new _ _, ht, fun e => by have := hv.lt; dsimp only at e; omega⟩
  · exact hl.par x hx
theorem WG.pop {T : TypeId} {B : Nat} {w0 w : World} {b : Nat} {x : Nat × Array Value × TypeId} {L : List (Nat × Array Value × TypeId)} {q : WS} (H : WG T B w0 w b (x :: L) q) : WG T B w0 w b L q := ⟨H.ex, fun y hy => H.par y (by simp [hy]), H.below, H.hb⟩
def layP (q : WS) (x : SigT) : WS := pText (pHash q x.1) x.2
def laySigsP (q : WS) (L : List SigT) : WS := L.foldl layP (wNum q L.length 1)
theorem layP_size (q : WS) (x : SigT) : (layP q x).1.size ≤ q.1.size + x.1.size + x.2.size + 2 := by
  unfold layP pText
  show ((wNum (pHash q x.1) x.2.size 2).1 ++ x.2).size ≤ _
  rw [ByteArray.size_append]
  have h := wNum_size (pHash q x.1) x.2.size 2
  have h2 : (pHash q x.1).1.size = q.1.size + x.1.size := by unfold pHash; exact ByteArray.size_append
  omega
def sigsZ : List SigT → Nat
  | [] => 0
  | x :: r => x.1.size + x.2.size + 2 + sigsZ r
theorem foldP_size : ∀ (L : List SigT) (q : WS), (L.foldl layP q).1.size ≤ q.1.size + sigsZ L
  | [], q => Nat.le_refl _
  | x :: r, q => by
    have h1 := foldP_size r (layP q x)
    have h2 := layP_size q x
    show (r.foldl layP (layP q x)).1.size ≤ q.1.size + (x.1.size + x.2.size + 2 + sigsZ r)
    omega
theorem sigsZ_take : ∀ (L : List SigT) (k : Nat), sigsZ (L.take k) ≤ sigsZ L
  | [], k => by simp [sigsZ]
  | x :: r, 0 => by simp [sigsZ]
  | x :: r, k + 1 => by
    have := sigsZ_take r k
    rw [List.take_succ_cons, sigsZ, sigsZ]
    omega
theorem sigsZ_get : ∀ (L : List SigT) (k : Nat) (h : k < L.length), sigsZ (L.take k) + (L[k].1.size + L[k].2.size + 2) ≤ sigsZ L
  | x :: r, 0, h => by simp [sigsZ]
  | x :: r, k + 1, h => by
    have := sigsZ_get r k (by simpa using h)
    rw [List.take_succ_cons, sigsZ, sigsZ, List.getElem_cons_succ]
    omega
def LsRel (w0 : World) (b : Nat) (Lp : List (Nat × Array Value × TypeId)) (q : WS) (L : List SigT) (i : Value) (wr : World) : Prop := ∃ k : Nat, k ≤ L.length ∧ i = .int .i64 k ∧ WG 75 w0.heap.size w0 wr b Lp ((L.take k).foldl layP q)

set_option maxRecDepth 100000 in
set_option maxHeartbeats 2000000 in
theorem laysigs_any (w0 : World) (b : Nat) (Lp : List (Nat × Array Value × TypeId)) (q : WS) (ad : Option Addr) (L : List SigT) (c : Nat) (w : World) (hL : SigsM w0 ad L) (hn : L.length ≤ 1000000) (hz : q.1.size + sigsZ L ≤ 70368744000000)
    (hG : WG 75 w0.heap.size w0 w b Lp q) :
    Calls Tryz.prog 50 #[.pointer (some ⟨b, 0, none⟩), .slice ad L.length c] w fun e w' => e = .returned (.tuple #[]) ∧ WG 75 w0.heap.size w0 w' b Lp (laySigsP q L) := by
  have HL := Lib.hid hL
  have HG := Lib.hid hG
  obtain ⟨v, hv⟩ := hG.ex
  have HV := Lib.hid hv
  have hq1 := wNum_size q L.length 1
  clear hL hG hv
  have e0 : laySigsP q L = L.foldl layP (wNum q L.length 1) := rfl
  rw [e0]
  clear e0
  go_enter Tryz.func50, Tryz.ntmps50
  go_wp2_with fail
  refine (pw1_any _ b v q L.length w (by omega) (by omega) HV.out).mono ?_
  rintro e w1 ⟨rfl, hk⟩
  have HG1 := Lib.hid (HG.out.step HV.out hk)
  clear hk HV HG
  generalize hE : wNum q L.length 1 = q1 at hq1 HG1
  have HE := Lib.hid hE
  clear hE
  go_wp2_with fail
  go_loopw [12] (fun i wr => LsRel w0 b Lp q1 L i wr) (fun i _ => L.length - (intOf i).toNat)
  case atStart => exact ⟨0, Nat.zero_le _, rfl, HG1.out⟩
  case round =>
    clear HG1
    obtain ⟨k, hk, rfl, hG⟩ := hrel
    have HG := Lib.hid hG
    clear hG
    by_cases hlt : k < L.length
    · obtain ⟨pb, po, rfl, s0, s1⟩ := (HL.out.below HG.out.below) k L[k] (List.getElem?_eq_getElem hlt)
      have hzg := sigsZ_get L k hlt
      have hfs := foldP_size (L.take k) q1
      have htk : (L.take (k + 1)).foldl layP q1 = layP ((L.take k).foldl layP q1) L[k] := by rw [List.take_succ_eq_append_getElem hlt, List.foldl_append]; rfl
      have HTk := Lib.hid htk
      generalize L[k] = x at s0 s1 hzg HTk
      generalize (L.take k).foldl layP q1 = cur at HG HTk hfs
      have hk0 : (0 : Int) ≤ (k : Int) := Int.natCast_nonneg _
      have hk1 : (k : Int) < (L.length : Int) := by omega
      have hcz : cur.1.size + x.1.size + x.2.size ≤ 70368744010000 := by omega
      clear htk hfs hzg
      go_wp2_with fail
      clear s0 s1
      have hG2 := HG.out.push #[.string x.1, .string x.2] 54 (by decide) HG.out.below.size
      have hxs : wr.heap.size < (wr.alloc (.cells #[.string x.1, .string x.2] 54)).heap.size := by rw [size_alloc]; omega
      generalize wr.alloc (.cells #[.string x.1, .string x.2] 54) = w2 at hG2 hxs ⊢
      generalize wr.heap.size = xb at hG2 hxs ⊢
      have HG2 := Lib.hid hG2
      obtain ⟨v2, hv2⟩ := hG2.ex
      have HV2 := Lib.hid hv2
      have hp2 := (hG2.par _ (List.mem_cons_self)).1
      have x0 := cell_of_blk hp2 0 (v := .string x.1) rfl
      have x1 := cell_of_blk hp2 1 (v := .string x.2) rfl
      clear hG2 hv2 hp2 HG
      go_wp2_with fail
      refine (phash_any _ b v2 cur x.1 w2 (by omega) HV2.out).mono ?_
      rintro e w3 ⟨rfl, hk3⟩
      have hs3 : (pHash cur x.1).1.size = cur.1.size + x.1.size := by unfold pHash; exact ByteArray.size_append
      have hG3 := HG2.out.step HV2.out hk3
      have HG3 := Lib.hid hG3
      obtain ⟨v3, hv3⟩ := hG3.ex
      have HV3 := Lib.hid hv3
      have x1' := cell_of_blk ((hG3.par _ (List.mem_cons_self)).1) 1 (v := .string x.2) rfl
      clear hG3 hv3 hk3 HG2 HV2 x0 x1
      have hlay : layP cur x = pText (pHash cur x.1) x.2 := rfl
      have HLy := Lib.hid hlay
      clear hlay
      generalize pHash cur x.1 = cur3 at hs3 HG3 HV3 HLy
      go_wp2_with fail
      refine (ptext_any _ b v3 cur3 x.2 w3 (by omega) HV3.out).mono ?_
      rintro e w4 ⟨rfl, hk4⟩
      have HG4 := Lib.hid (HG3.out.step HV3.out hk4)
      clear hk4 HG3 HV3 x1'
      go_wp2_with fail
      refine ⟨⟨k + 1, hlt, rfl, ?_⟩, ?_⟩
      · rw [HTk.out, HLy.out]
        exact HG4.out.pop
      · show L.length - ((k : Int) + 1).toNat < L.length - (k : Int).toNat
        omega
    · obtain rfl : k = L.length := by omega
      have hfin : L.take L.length = L := List.take_length
      rw [hfin] at HG
      go_wp2_with fail
      go_end0
      exact ⟨rfl, HE.out ▸ HG.out⟩

/-! ### signatures taken -/
theorem beL1 (l : List UInt8) (h : l.length ≤ 1) : beL l ≤ 255 := by
  match l, h with
  | [], _ => exact Nat.zero_le _
  | [c], _ => have := c.toNat_lt; show 256 * 0 + c.toNat ≤ 255; omega
  | _ :: _ :: _, h => simp at h
theorem rNum1 (r : RS) : ∃ n : Nat, (rNum r 1).1 = n ∧ n ≤ 255 := ⟨_, rfl, beL1 _ (rRaw_len r 1)⟩
theorem rTxt_sz (r : RS) (most : Int) : (rTxt r most).2.1.size ≤ r.1.size := by
  unfold rTxt
  split
  · exact Nat.le_refl _
  · show (if _ then _ else _ : RS).1.size ≤ _
    split
    · exact Nat.le_refl _
    · exact Nat.le_trans (rRaw_size _ _).2 (rTxt2_size r most)
def takeN (r : RS) : Nat → List SigT × RS
  | 0 => ([], r)
  | k + 1 => ((takeN r k).1 ++ [((rRaw (takeN r k).2 32).1, (rTxt (rRaw (takeN r k).2 32).2 1024).1)], (rTxt (rRaw (takeN r k).2 32).2 1024).2)
def takeP (r : RS) : List SigT × RS := (if (takeN (rNum r 1).2 (rNum r 1).1.toNat).2.2 = 0 then (takeN (rNum r 1).2 (rNum r 1).1.toNat).1 else [], (takeN (rNum r 1).2 (rNum r 1).1.toNat).2)
theorem takeN_size (r : RS) : ∀ k, (takeN r k).2.1.size ≤ r.1.size
  | 0 => Nat.le_refl _
  | k + 1 => Nat.le_trans (rTxt_sz _ _) (Nat.le_trans (rRaw_size _ _).2 (takeN_size r k))
theorem takeN_len (r : RS) : ∀ k, (takeN r k).1.length = k
  | 0 => rfl
  | k + 1 => by show ((takeN r k).1 ++ [_]).length = k + 1; rw [List.length_append, takeN_len r k]; rfl
def TsRel (T : TypeId) (w0 : World) (b : Nat) (r : RS) (n : Nat) (l i : Value) (wr : World) : Prop := ∃ k : Nat, k ≤ n ∧ i = .int .i64 k ∧ OwnG wr w0.heap.size l (takeN r k).1 ∧ RdP T b (takeN r k).2 w0 wr
def TsPost (T : TypeId) (b : Nat) (q : List SigT × RS) (w : World) (e : Ending) (w' : World) : Prop := ∃ v, e = .returned v ∧ OwnG w' w.heap.size v q.1 ∧ RdP T b q.2 w w'
theorem Rdr.lt {T : TypeId} {w : World} {b : Nat} {r : RS} (h : Rdr T w b r) : b < w.heap.size := (Array.getElem?_eq_some_iff.1 h).1
theorem OwnG.rd {T : TypeId} {b : Nat} {r : RS} {w0 w w' : World} {v : Value} {L : List SigT} (h : OwnG w w0.heap.size v L) (hb : b < w0.heap.size) (k : RdP T b r w w') : OwnG w' w0.heap.size v L :=
  OwnL.kp h k.2 (fun g hg => by have := (OwnL.lt h g hg).1; omega)

set_option maxRecDepth 100000 in
set_option maxHeartbeats 2000000 in
theorem takesigs_any (b : Nat) (r : RS) (w : World) (hs : r.1.size ≤ 9223372036854775807) (h : Rdr 136 w b r) :
    Calls Tryz.prog 55 #[.pointer (some ⟨b, 0, none⟩)] w (TsPost 136 b (takeP r) w) := by
  have HC := Lib.hid (r1_any b r w hs h)
  have hbw := h.lt
  have HBW := Lib.hid hbw
  obtain ⟨n, hn, hn255⟩ := rNum1 r
  have hz1 : (rNum r 1).2.1.size ≤ r.1.size := (rRaw_size r 1).2
  have htp : takeP r = (if (takeN (rNum r 1).2 n).2.2 = 0 then (takeN (rNum r 1).2 n).1 else [], (takeN (rNum r 1).2 n).2) := by unfold takeP; rw [hn]; rfl
  rw [htp]
  rw [hn] at HC
  clear h htp hn hbw
  generalize (rNum r 1).2 = r1 at HC hz1 ⊢
  unfold TsPost
  obtain ⟨qn, hqn⟩ : ∃ qn, qn = takeN r1 n := ⟨_, rfl⟩
  rw [← hqn]
  have HQ := Lib.hid hqn
  clear hqn
  go_enter Tryz.func55, Tryz.ntmps55
  go_wp2_with fail
  refine HC.out.mono ?_
  rintro e w1 ⟨rfl, h1⟩
  have H1 := Lib.hid h1
  clear h1 HC
  go_wp2_with fail
  go_loopw [3, 7] (fun l i wr => TsRel 136 w b r1 n l i wr) (fun _ i _ => n - (intOf i).toNat)
  case atStart => exact ⟨0, Nat.zero_le _, rfl, ownL_nil _ _, H1.out⟩
  case round =>
    obtain ⟨k, hk, rfl, hO, hR⟩ := hrel
    have HO := Lib.hid hO
    have HR := Lib.hid hR
    have hsz := takeN_size r1 k
    have hln := Lib.hid (takeN_len r1 k)
    clear hO hR H1
    by_cases hlt : k < n
    · have ht1 : (takeN r1 (k + 1)).1 = (takeN r1 k).1 ++ [((rRaw (takeN r1 k).2 32).1, (rTxt (rRaw (takeN r1 k).2 32).2 1024).1)] := rfl
      have ht2 : (takeN r1 (k + 1)).2 = (rTxt (rRaw (takeN r1 k).2 32).2 1024).2 := rfl
      have HT1 := Lib.hid ht1
      have HT2 := Lib.hid ht2
      have hk0 : (k : Int) < (n : Int) := by omega
      clear ht1 ht2
      generalize (takeN r1 k).2 = ra at HR HT1 HT2 hsz
      generalize (takeN r1 k).1 = L at HO HT1 hln
      obtain ⟨ao, cap, rfl, -, -, -⟩ := OwnL.form HO.out
      have hz2 := (rRaw_size ra 32).2
      have HC1 := Lib.hid (rhash_any b ra wr (by omega) HR.out.1)
      generalize (rRaw ra 32).1 = x1 at HC1 HT1
      generalize (rRaw ra 32).2 = rb at HC1 HT1 HT2 hz2
      go_wp2_with fail
      refine HC1.out.mono ?_
      rintro e w2 ⟨rfl, h2⟩
      have HC2 := Lib.hid (rtxt_any b rb 1024 w2 (by decide) (by omega) h2.1)
      have HO2 := Lib.hid (HO.out.rd HBW.out h2)
      have HR2 := Lib.hid (HR.out.trans h2)
      clear h2 HO HR HC1
      generalize (rTxt rb 1024).1 = x2 at HC2 HT1
      generalize (rTxt rb 1024).2 = rc at HC2 HT2
      go_wp2_with fail
      refine HC2.out.mono ?_
      rintro e w3 ⟨rfl, h3⟩
      have HO3 := Lib.hid (HO2.out.rd HBW.out h3)
      have HR3 := Lib.hid (HR2.out.trans h3)
      clear h3 HO2 HR2 HC2
      obtain ⟨i0, hi, hz0, hz1', hz2'⟩ := info_parts infoSig
      have HI2 := Lib.hid hz2'
      clear hz2'
      go_wp2_with (first | (at_builtin; refine wpList_appL _ rfl _ _ 41 rfl i0 (.agg #[.string ⟨#[]⟩, .string ⟨#[]⟩]) 32 Tryz.underlying41 hi hz0 hz1' HI2.out rfl (by decide) w.heap.size (.slice ao L.length cap) L rfl (OwnL.alloc HO3.out _) (x1, x2) rfl ⟨w3.heap.size, 0, none⟩ 1 rfl (one_sig w3 (x1, x2) _) ?_ ?_ (by decide) ?_ ?_) | fail)
      · exact ⟨rfl, rfl⟩
      · have := hln.out; omega
      · rw [size_alloc]; have := HR3.out.2.size; omega
      intro v5 w5 ho5 hg5 hown5
      have hown := OwnL.lt HO3.out
      have hk5 : Kp (fun k => (Value.slice ao L.length cap).ownBlock = some k) w3 w5 := ((Kp.refl (fun k => (Value.slice ao L.length cap).ownBlock = some k) w3).alloc _).grown hg5 (fun k h => .inl h)
      have hr5 : RdP 136 b rc w w5 := ⟨blk_kp HR3.out.1 hk5 (fun h => by have := (hown _ h).1; have := HBW.out; omega), HR3.out.2.trans' hk5 (fun i hi => .inr (hown _ hi).1)⟩
      have HR5 := Lib.hid hr5
      have HO5 := Lib.hid ho5
      clear hk5 hr5 hown ho5 hg5 hown5 HO3 HR3
      go_wp2_with fail
      refine ⟨⟨k + 1, hlt, rfl, ?_, ?_⟩, ?_⟩
      · rw [HT1.out]; exact HO5.out
      · rw [HT2.out]; exact HR5.out
      · show n - ((k : Int) + 1).toNat < n - (k : Int).toNat
        omega
    · obtain rfl : k = n := by omega
      have hO := HO.out
      have hR := HR.out
      rw [← HQ.out] at hO hR
      obtain ⟨ao, cap, rfl, -, -, -⟩ := OwnL.form hO
      have HC1 := Lib.hid (err_any b qn.2 wr hR.1)
      have HO2 := Lib.hid hO
      have HR2 := Lib.hid hR
      clear hO hR HO HR hln hsz
      by_cases he : qn.2.2 = 0
      · have hb : (qn.2.2 == 0) = true := beq_iff_eq.2 he
        have hb2 : (qn.2.2 != 0) = false := by rw [bne, hb]; rfl
        have HE := Lib.hid he
        clear he
        go_wp2_with fail
        refine HC1.out.mono ?_
        rintro e w2 ⟨rfl, rfl⟩
        go_wp2_with fail
        go_ret
        exact ⟨_, rfl, HO2.out, HR2.out⟩
      · have hb : (qn.2.2 == 0) = false := beq_eq_false_iff_ne.2 he
        have hb2 : (qn.2.2 != 0) = true := by rw [bne, hb]; rfl
        have HE := Lib.hid he
        clear he
        go_wp2_with fail
        refine HC1.out.mono ?_
        rintro e w2 ⟨rfl, rfl⟩
        go_wp2_with fail
        go_ret
        exact ⟨_, rfl, ownL_nil _ _, HR2.out⟩

set_option maxRecDepth 100000 in
set_option maxHeartbeats 2000000 in
theorem qtakesigs_any (b : Nat) (r : RS) (w : World) (hs : r.1.size ≤ 9223372036854775807) (h : Rdr 141 w b r) :
    Calls Tryz.prog 58 #[.pointer (some ⟨b, 0, none⟩)] w (TsPost 141 b (takeP r) w) := by
  have HC := Lib.hid (qnum_any b r 1 w (by decide) hs h)
  have hbw := h.lt
  have HBW := Lib.hid hbw
  obtain ⟨n, hn, hn255⟩ := rNum1 r
  have hz1 : (rNum r 1).2.1.size ≤ r.1.size := (rRaw_size r 1).2
  have htp : takeP r = (if (takeN (rNum r 1).2 n).2.2 = 0 then (takeN (rNum r 1).2 n).1 else [], (takeN (rNum r 1).2 n).2) := by unfold takeP; rw [hn]; rfl
  rw [htp]
  rw [qNum_small r (by decide), show ((1 : Nat) : Int) = 1 from rfl, hn] at HC
  clear h htp hn hbw
  generalize (rNum r 1).2 = r1 at HC hz1 ⊢
  unfold TsPost
  obtain ⟨qn, hqn⟩ : ∃ qn, qn = takeN r1 n := ⟨_, rfl⟩
  rw [← hqn]
  have HQ := Lib.hid hqn
  clear hqn
  go_enter Tryz.func58, Tryz.ntmps58
  go_wp2_with fail
  refine HC.out.mono ?_
  rintro e w1 ⟨rfl, h1⟩
  have H1 := Lib.hid h1
  clear h1 HC
  go_wp2_with fail
  go_loopw [3, 5] (fun l i wr => TsRel 141 w b r1 n l i wr) (fun _ i _ => n - (intOf i).toNat)
  case atStart => exact ⟨0, Nat.zero_le _, rfl, ownL_nil _ _, H1.out⟩
  case round =>
    obtain ⟨k, hk, rfl, hO, hR⟩ := hrel
    have HO := Lib.hid hO
    have HR := Lib.hid hR
    have hsz := takeN_size r1 k
    have hln := Lib.hid (takeN_len r1 k)
    clear hO hR H1
    by_cases hlt : k < n
    · have ht1 : (takeN r1 (k + 1)).1 = (takeN r1 k).1 ++ [((rRaw (takeN r1 k).2 32).1, (rTxt (rRaw (takeN r1 k).2 32).2 1024).1)] := rfl
      have ht2 : (takeN r1 (k + 1)).2 = (rTxt (rRaw (takeN r1 k).2 32).2 1024).2 := rfl
      have HT1 := Lib.hid ht1
      have HT2 := Lib.hid ht2
      have hk0 : (k : Int) < (n : Int) := by omega
      clear ht1 ht2
      generalize (takeN r1 k).2 = ra at HR HT1 HT2 hsz
      generalize (takeN r1 k).1 = L at HO HT1 hln
      obtain ⟨ao, cap, rfl, -, -, -⟩ := OwnL.form HO.out
      have hz2 := (rRaw_size ra 32).2
      have HC1 := Lib.hid (qraw_any b ra 32 wr (by omega) HR.out.1)
      generalize (rRaw ra 32).1 = x1 at HC1 HT1
      generalize (rRaw ra 32).2 = rb at HC1 HT1 HT2 hz2
      go_wp2_with fail
      refine HC1.out.mono ?_
      rintro e w2 ⟨rfl, h2⟩
      have HC2 := Lib.hid (qtxt_any b rb 1024 w2 (by decide) (by omega) h2.1)
      have HO2 := Lib.hid (HO.out.rd HBW.out h2)
      have HR2 := Lib.hid (HR.out.trans h2)
      clear h2 HO HR HC1
      generalize (rTxt rb 1024).1 = x2 at HC2 HT1
      generalize (rTxt rb 1024).2 = rc at HC2 HT2
      go_wp2_with fail
      refine HC2.out.mono ?_
      rintro e w3 ⟨rfl, h3⟩
      have HO3 := Lib.hid (HO2.out.rd HBW.out h3)
      have HR3 := Lib.hid (HR2.out.trans h3)
      clear h3 HO2 HR2 HC2
      obtain ⟨i0, hi, hz0, hz1', hz2'⟩ := info_parts infoSig
      have HI2 := Lib.hid hz2'
      clear hz2'
      go_wp2_with (first | (at_builtin; refine wpList_appL _ rfl _ _ 41 rfl i0 (.agg #[.string ⟨#[]⟩, .string ⟨#[]⟩]) 32 Tryz.underlying41 hi hz0 hz1' HI2.out rfl (by decide) w.heap.size (.slice ao L.length cap) L rfl (OwnL.alloc HO3.out _) (x1, x2) rfl ⟨w3.heap.size, 0, none⟩ 1 rfl (one_sig w3 (x1, x2) _) ?_ ?_ (by decide) ?_ ?_) | fail)
      · exact ⟨rfl, rfl⟩
      · have := hln.out; omega
      · rw [size_alloc]; have := HR3.out.2.size; omega
      intro v5 w5 ho5 hg5 hown5
      have hown := OwnL.lt HO3.out
      have hk5 : Kp (fun k => (Value.slice ao L.length cap).ownBlock = some k) w3 w5 := ((Kp.refl (fun k => (Value.slice ao L.length cap).ownBlock = some k) w3).alloc _).grown hg5 (fun k h => .inl h)
      have hr5 : RdP 141 b rc w w5 := ⟨blk_kp HR3.out.1 hk5 (fun h => by have := (hown _ h).1; have := HBW.out; omega), HR3.out.2.trans' hk5 (fun i hi => .inr (hown _ hi).1)⟩
      have HR5 := Lib.hid hr5
      have HO5 := Lib.hid ho5
      clear hk5 hr5 hown ho5 hg5 hown5 HO3 HR3
      go_wp2_with fail
      refine ⟨⟨k + 1, hlt, rfl, ?_, ?_⟩, ?_⟩
      · rw [HT1.out]; exact HO5.out
      · rw [HT2.out]; exact HR5.out
      · show n - ((k : Int) + 1).toNat < n - (k : Int).toNat
        omega
    · obtain rfl : k = n := by omega
      have hO := HO.out
      have hR := HR.out
      rw [← HQ.out] at hO hR
      obtain ⟨ao, cap, rfl, -, -, -⟩ := OwnL.form hO
      obtain ⟨⟨-, c1⟩, -, -⟩ := hR.1.cells
      have HO2 := Lib.hid hO
      have HR2 := Lib.hid hR
      clear hO hR HO HR hln hsz
      by_cases he : qn.2.2 = 0
      · have hb : (qn.2.2 == 0) = true := beq_iff_eq.2 he
        have hb2 : (qn.2.2 != 0) = false := by rw [bne, hb]; rfl
        have HE := Lib.hid he
        clear he
        go_wp2_with fail
        go_ret
        exact ⟨_, rfl, HO2.out, HR2.out⟩
      · have hb : (qn.2.2 == 0) = false := beq_eq_false_iff_ne.2 he
        have hb2 : (qn.2.2 != 0) = true := by rw [bne, hb]; rfl
        have HE := Lib.hid he
        clear he
        go_wp2_with fail
        go_ret
        exact ⟨_, rfl, ownL_nil _ _, HR2.out⟩

/-! ### the reference lays signatures -/
set_option maxRecDepth 100000 in
set_option maxHeartbeats 1000000 in
theorem rwhash_any (B b : Nat) (v : Value) (q : WS) (s : ByteArray) (w : World) (hz : q.1.size ≤ 70368744000000) (hs : s.size ≤ 9223372036854775807) (h : Wr 101 B w b v q) :
    Calls Tryz.prog 62 #[.pointer (some ⟨b, 0, none⟩), .string s] w fun e w' => e = .returned (.tuple #[]) ∧ WrK 101 B b v w w' (rHash q s) := by
  unfold rHash
  by_cases h32 : (s.size : Int) = 32
  · have b1 : ((s.size : Int) == 32) = true := beq_iff_eq.2 h32
    have b2 : ((s.size : Int) != 32) = false := by rw [bne, b1]; rfl
    rw [if_neg (by omega)]
    have HW := Lib.hid h
    have c0 : w.cell? ⟨b, 0, none⟩ = some v := cell_of_blk h.blk 0 rfl
    have hne : v.ownBlock ≠ some b := HW.out.own.ne_blk HW.out.blk (by decide)
    clear h
    go_enter Tryz.func62, Tryz.ntmps62
    go_wp2_with (first | (at_builtin; refine wpList_appSw _ rfl rfl _ _ rfl B _ q.1 rfl HW.out.own s rfl ?_ HW.out.size ?_) | fail)
    · omega
    intro ao n' cap w2 ho hg hv
    have hb2 := grown_blk HW.out.blk hg hne
    have e0 : w2.cell? ⟨b, 0, none⟩ = some v := cell_of_blk hb2 0 rfl
    have e1 := blk_free hb2 0
    have HF := Lib.hid (wrk_app' HW.out (NewV.refl _ _) (Kp.refl _ _) (by decide) ho hg hv)
    clear ho hg hv hb2 hne
    go_wp2_with fail
    go_end0
    exact ⟨rfl, HF.out⟩
  · have b1 : ((s.size : Int) == 32) = false := beq_eq_false_iff_ne.2 h32
    have b2 : ((s.size : Int) != 32) = true := by rw [bne, b1]; rfl
    rw [if_pos (by omega)]
    have c1 : w.cell? ⟨b, 1, none⟩ = some (.bool q.2) := cell_of_blk h.blk 1 rfl
    have f1 := free_of_blk h.blk 1
    have HF := Lib.hid (wrk_bad h (by decide))
    clear h
    go_enter Tryz.func62, Tryz.ntmps62
    go_wp2_with fail
    refine bodyPost_ret (v := .tuple #[]) (results_none rfl _ _ _) rfl ⟨rfl, HF.out⟩
def rlayF (q : WS) : List SigT → WS
  | [] => q
  | x :: r => if q.2 = true then q else rlayF (rText (rHash q x.1) x.2) r
def rlayP (q : WS) (L : List SigT) : WS := rlayF (wNum q L.length 1) L
theorem rlayF_bad {q : WS} (h : q.2 = true) : ∀ L, rlayF q L = q
  | [] => rfl
  | x :: r => by rw [rlayF, if_pos h]
theorem rlayF_app : ∀ (L M : List SigT) (q : WS), rlayF q (L ++ M) = rlayF (rlayF q L) M
  | [], M, q => rfl
  | x :: r, M, q => by
    by_cases h : q.2 = true
    · rw [rlayF_bad h, rlayF_bad h, rlayF_bad h]
    · show rlayF q (x :: (r ++ M)) = _
      rw [rlayF, if_neg h, rlayF_app r M, rlayF, if_neg h]
theorem rText_size (q : WS) (s : ByteArray) : (rText q s).1.size ≤ q.1.size + 65537 := by
  unfold rText
  split
  · show q.1.size ≤ _; omega
  · unfold pText
    show ((wNum q s.size 2).1 ++ s).size ≤ _
    rw [ByteArray.size_append]
    have h := wNum_size q s.size 2
    omega
theorem rHash_size (q : WS) (s : ByteArray) : (rHash q s).1.size ≤ q.1.size + 32 := by
  unfold rHash
  split
  · show q.1.size ≤ _; omega
  · show (q.1 ++ s).size ≤ _
    rw [ByteArray.size_append]
    omega
theorem rlayF_size : ∀ (L : List SigT) (q : WS), (rlayF q L).1.size ≤ q.1.size + 65569 * L.length
  | [], q => Nat.le_add_right _ _
  | x :: r, q => by
    rw [rlayF]
    split
    · omega
    · have h1 := rlayF_size r (rText (rHash q x.1) x.2)
      have h2 := rText_size (rHash q x.1) x.2
      have h3 := rHash_size q x.1
      rw [List.length_cons]
      omega
theorem layP_bad {q : WS} (h : q.2 = true) (x : SigT) : (layP q x).2 = true := by
  have h1 : (pHash q x.1).2 = true := by unfold pHash; rw [h]; rfl
  unfold layP pText wNum
  split
  · rfl
  · exact h1
theorem foldP_bad : ∀ (L : List SigT) {q : WS} (h : q.2 = true), (L.foldl layP q).2 = true
  | [], q, h => h
  | x :: r, q, h => foldP_bad r (layP_bad h x)
theorem weq_lay : ∀ (L : List SigT) (p q : WS), WEq p q → WEq (L.foldl layP p) (rlayF q L)
  | [], p, q, h => h
  | x :: r, p, q, h => by
    by_cases hb : q.2 = true
    · rw [rlayF_bad hb]
      have hp : p.2 = true := h.1.trans hb
      have h2 := foldP_bad (x :: r) hp
      exact ⟨h2.trans hb.symm, fun h3 => absurd (h2.symm.trans h3) (by decide)⟩
    · rw [rlayF, if_neg hb]
      exact weq_lay r _ _ ((h.hash x.1).text x.2)
theorem weq_sigs {p q : WS} (h : WEq p q) (L : List SigT) : WEq (laySigsP p L) (rlayP q L) := weq_lay L _ _ (h.num _ _)
def LrRel (w0 : World) (b : Nat) (Lp : List (Nat × Array Value × TypeId)) (q : WS) (L : List SigT) (i : Value) (wr : World) : Prop := ∃ k : Nat, k ≤ L.length ∧ i = .int .i64 k ∧ WG 101 w0.heap.size w0 wr b Lp (rlayF q (L.take k))

set_option maxRecDepth 100000 in
set_option maxHeartbeats 2000000 in
theorem rlaysigs_any (w0 : World) (b : Nat) (Lp : List (Nat × Array Value × TypeId)) (q : WS) (ad : Option Addr) (L : List SigT) (c : Nat) (w : World) (hL : SigsM w0 ad L) (hn : L.length ≤ 1000000) (hz : q.1.size ≤ 1000000000) (hx : ∀ x ∈ L, x.1.size ≤ 1000000000 ∧ x.2.size ≤ 1000000000)
    (hG : WG 101 w0.heap.size w0 w b Lp q) :
    Calls Tryz.prog 52 #[.pointer (some ⟨b, 0, none⟩), .slice ad L.length c] w fun e w' => e = .returned (.tuple #[]) ∧ WG 101 w0.heap.size w0 w' b Lp (rlayP q L) := by
  have HL := Lib.hid hL
  have HG := Lib.hid hG
  have HX := Lib.hid hx
  obtain ⟨v, hv⟩ := hG.ex
  have HV := Lib.hid hv
  have hq1 := wNum_size q L.length 1
  clear hL hG hv hx
  have e0 : rlayP q L = rlayF (wNum q L.length 1) L := rfl
  rw [e0]
  clear e0
  go_enter Tryz.func52, Tryz.ntmps52
  go_wp2_with fail
  refine (rnum_any _ b v q L.length 1 w (by decide) (by omega) (by omega) HV.out).mono ?_
  rintro e w1 ⟨rfl, hk⟩
  have HG1 := Lib.hid (HG.out.step HV.out hk)
  clear hk HV HG
  generalize hE : wNum q L.length 1 = q1 at hq1 HG1
  have HE := Lib.hid hE
  clear hE
  go_wp2_with fail
  go_loopw [4] (fun i wr => LrRel w0 b Lp q1 L i wr) (fun i _ => L.length - (intOf i).toNat)
  case atStart => exact ⟨0, Nat.zero_le _, rfl, HG1.out⟩
  case round =>
    clear HG1
    obtain ⟨k, hk, rfl, hG⟩ := hrel
    have HG := Lib.hid hG
    obtain ⟨v2, hv2⟩ := hG.ex
    have HV2 := Lib.hid hv2
    have b1 : wr.cell? ⟨b, 1, none⟩ = some (.bool (rlayF q1 (L.take k)).2) := cell_of_blk hv2.blk 1 rfl
    clear hG hv2
    have hfs := rlayF_size (L.take k) q1
    rw [List.length_take] at hfs
    by_cases hlt : k < L.length
    · have hk1 : (k : Int) < (L.length : Int) := by omega
      have hk0 : (0 : Int) ≤ (k : Int) := Int.natCast_nonneg _
      have hend : (rlayF q1 (L.take k)).2 = true → rlayF q1 L = rlayF q1 (L.take k) := fun h => by
        conv => lhs; rw [← List.take_append_drop k L]
        rw [rlayF_app, rlayF_bad h]
      have htk : (rlayF q1 (L.take k)).2 = false → rlayF q1 (L.take (k + 1)) = rText (rHash (rlayF q1 (L.take k)) L[k].1) L[k].2 := fun h => by
        rw [List.take_succ_eq_append_getElem hlt, rlayF_app, rlayF, if_neg (by rw [h]; decide)]
        rfl
      obtain ⟨pb, po, rfl, s0, s1⟩ := (HL.out.below HG.out.below) k L[k] (List.getElem?_eq_getElem hlt)
      have HM := Lib.hid (HL.out.below HG.out.below k L[k] (List.getElem?_eq_getElem hlt))
      have hxx := HX.out L[k] (List.getElem_mem hlt)
      have HXk := Lib.hid (List.getElem?_eq_getElem hlt)
      have HTk := Lib.hid htk
      have HEnd := Lib.hid hend
      clear htk hend s1
      generalize L[k] = x at s0 HM HTk hxx HXk
      generalize rlayF q1 (L.take k) = cur at HG HV2 b1 HTk HEnd hfs
      obtain ⟨cs, cb⟩ := cur
      dsimp only at b1 hfs
      cases cb with
      | true =>
        have HF := Lib.hid (HEnd.out rfl)
        clear HTk HEnd HM
        go_wp2_with fail
        go_end0
        exact ⟨rfl, by rw [HE.out, HF.out]; exact HG.out⟩
      | false =>
        have HT := Lib.hid (HTk.out rfl)
        have hrh := rHash_size (cs, false) x.1
        dsimp only at hrh
        clear HTk HEnd
        go_wp2_with fail
        clear s0 b1
        refine (rwhash_any _ b v2 _ x.1 wr (by show cs.size ≤ _; omega) (by omega) HV2.out).mono ?_
        rintro e w3 ⟨rfl, hk3⟩
        have hG3 := HG.out.step HV2.out hk3
        have HG3 := Lib.hid hG3
        obtain ⟨v3, hv3⟩ := hG3.ex
        have HV3 := Lib.hid hv3
        have hs1 : w3.cell? ⟨pb, po + k * 2 + 1, none⟩ = some (.string x.2) := by
          obtain ⟨pb', po', e, -, s1'⟩ := (HL.out.below HG3.out.below) k x HXk.out
          cases e
          exact s1'
        clear hk3 hG3 hv3 HG HV2 HM
        generalize rHash (cs, false) x.1 = cur3 at HT HG3 HV3 hrh
        go_wp2_with fail
        clear hs1
        refine (rwtext_any _ b v3 _ x.2 w3 (by omega) (by omega) HV3.out).mono ?_
        rintro e w4 ⟨rfl, hk4⟩
        have HG4 := Lib.hid (HG3.out.step HV3.out hk4)
        clear hk4 HG3 HV3
        go_wp2_with fail
        refine ⟨⟨k + 1, hlt, rfl, ?_⟩, ?_⟩
        · rw [HT.out]
          exact HG4.out
        · show L.length - ((k : Int) + 1).toNat < L.length - (k : Int).toNat
          omega
    · obtain rfl : k = L.length := by omega
      have hfin : L.take L.length = L := List.take_length
      rw [hfin] at HG
      clear HV2 b1
      go_wp2_with fail
      go_end0
      exact ⟨rfl, HE.out ▸ HG.out⟩
end Go.Proofs.YtmejjphliaiamaaGreatDoor
