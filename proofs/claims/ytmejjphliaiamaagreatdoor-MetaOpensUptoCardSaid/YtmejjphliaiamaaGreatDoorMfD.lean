import Derived.Test.YtmejjphliaiamaaGreatDoorMeH
import Derived.Test.YtmejjphliaiamaaGreatDoorMeY
import Derived.Test.YtmejjphliaiamaaGreatDoorMeV
import Derived.Deep.QuietTactic
import Derived.BigQuiet
import Derived.StillTail
import Derived.Lib.QuietBelow
set_option linter.unusedVariables false
set_option linter.unusedSimpArgs false
namespace Go.Proofs.YtmejjphliaiamaaGreatDoor
open Go Go.RowKit Go.Lib Go.Sort

/-! ### a document of no kind -/
set_option maxRecDepth 100000 in
set_option maxHeartbeats 4000000 in
theorem check_none (d : DV) (w : World) (hk : ¬ (1 ≤ d.kind ∧ d.kind ≤ 4)) :
    Calls Tryz.prog 10 #[docV d] w fun e w' => e = .returned (.int .i64 1) ∧ Below w.heap.size w w' := by
  have hd : DocAt (w.alloc (.cells (docC d) 30)) w.heap.size d := blk_new _ _
  have hB : Below w.heap.size w (w.alloc (.cells (docC d) 30)) := (Below.refl _ w).alloc (Nat.le_refl _) _
  obtain ⟨w1, hw1⟩ : ∃ w1, w1 = w.alloc (.cells (docC d) 30) := ⟨_, rfl⟩
  rw [← hw1] at hd hB
  unfold docV
  have HB := Lib.hid hB
  have HF := Lib.hid (forms_none d.kind w1 hk)
  have c0 : (w.alloc (.cells (docC d) 30)).cell? ⟨w.heap.size, 0, none⟩ = some (.int .i64 d.kind) := by rw [← hw1]; exact cell_of_blk hd 0 (v := .int .i64 d.kind) rfl
  clear hd hB hk
  go_enter Tryz.func10, Tryz.ntmps10
  go_wp2_with fail
  rw [← hw1]
  clear hw1 c0
  refine HF.out.mono ?_
  rintro e w2 ⟨rfl, hb2⟩
  have HB2 := Lib.hid ((HB.out.trans (hb2.mono HB.out.size)).alloc (Nat.le_trans HB.out.size hb2.size) (.cells #[.nilFunc, .nilFunc, .nilFunc, .nilFunc] 82))
  clear hb2 HB HF
  obtain ⟨n0, f0⟩ := form_new w2 0 (by decide)
  obtain ⟨n1, f1⟩ := form_new w2 1 (by decide)
  obtain ⟨n2, f2⟩ := form_new w2 2 (by decide)
  obtain ⟨n3, f3⟩ := form_new w2 3 (by decide)
  go_wp2_with fail
  go_ret
  exact ⟨rfl, HB2.out⟩
set_option maxRecDepth 100000 in
set_option maxHeartbeats 4000000 in
theorem encode_none (d : DV) (w : World) (hk : ¬ (1 ≤ d.kind ∧ d.kind ≤ 4)) :
    Calls Tryz.prog 9 #[docV d] w fun e w' => e = .returned (.tuple #[.string ⟨#[]⟩, .int .i64 1]) ∧ Below w.heap.size w w' := by
  have hd : DocAt (w.alloc (.cells (docC d) 30)) w.heap.size d := blk_new _ _
  have hB : Below w.heap.size w (w.alloc (.cells (docC d) 30)) := (Below.refl _ w).alloc (Nat.le_refl _) _
  obtain ⟨w1, hw1⟩ : ∃ w1, w1 = w.alloc (.cells (docC d) 30) := ⟨_, rfl⟩
  rw [← hw1] at hd hB
  have HC := check_none d w1 hk
  unfold docV at HC ⊢
  have HC2 := Lib.hid HC
  have hD0 : DocAt (w.alloc (.cells (docC d) 30)) w.heap.size d := hw1 ▸ hd
  have HD0 := Lib.hid hD0
  have HB := Lib.hid hB
  clear hd hB hD0 HC hk
  go_enter Tryz.func9, Tryz.ntmps9
  go_wp2_with (first | refine wpList_doc rfl _ rfl w.heap.size d rfl HD0.out ?_ | fail)
  rw [← hw1]
  clear hw1 HD0
  refine HC2.out.mono ?_
  rintro e w2 ⟨rfl, hb2⟩
  have HB2 := Lib.hid (HB.out.trans (hb2.mono HB.out.size))
  clear hb2 HB HC2
  go_wp2_with fail
  go_ret2
  exact ⟨rfl, HB2.out⟩

set_option maxRecDepth 100000 in
set_option maxHeartbeats 4000000 in
theorem decode_none (s : ByteArray) (w : World) (hs : s.size ≤ 1000000000) (hk : ¬ (1 ≤ (rA s).1 ∧ (rA s).1 ≤ 4)) :
    Calls Tryz.prog 11 #[.string s] w (DecPost 3 (fun _ _ => False) w) := by
  obtain ⟨z1, z2, z3⟩ := rC_size s
  have hA : rNum (s, 0) 1 = rA s := rfl
  have hB : rNum (rA s).2 2 = rB s := rfl
  have hC : rEight (rB s).2 = rC s := rfl
  have hH : dHead s = { dz with kind := (rA s).1, ver := (rB s).1, exp := (rC s).1 } := rfl
  have HF := Lib.hid (fun W => forms_none (rA s).1 W hk)
  have HCk := Lib.hid (fun W => check_none (dHead s) W hk)
  unfold docV at HCk
  generalize rA s = A at *
  generalize rB s = B at *
  generalize rC s = C at *
  generalize dHead s = d0 at *
  have HA := Lib.hid hA
  have HB := Lib.hid hB
  have HC := Lib.hid hC
  have HH := Lib.hid hH
  clear hA hB hC hH hk
  unfold DecPost
  obtain ⟨w1, hw1⟩ : ∃ w1, w1 = w.alloc (.cells (docC dz) 30) := ⟨_, rfl⟩
  have ho1 : DocAt w1 w.heap.size dz := by rw [hw1]; exact blk_new _ _
  have hb1 : Below w.heap.size w w1 := by rw [hw1]; exact (Below.refl _ w).alloc (Nat.le_refl _) _
  have hz1 : w1.heap.size = w.heap.size + 1 := by rw [hw1, size_alloc]
  simp only [docC, dz, sz] at hw1
  go_enter Tryz.func11, Tryz.ntmps11
  go_wp2_with fail
  rw [← hw1]
  clear hw1
  refine (read_any s w1).mono ?_
  rintro e w2 ⟨rfl, hw2⟩
  have ho2 : DocAt w2 w.heap.size dz := by rw [hw2]; exact blk_alloc ho1 _
  have hr2 : Rdr 136 w2 w1.heap.size (s, 0) := by rw [hw2]; exact rdr_new _ w1 s
  have hb2 : Below w.heap.size w w2 := by rw [hw2]; exact hb1.alloc hb1.size _
  have hz2 : w2.heap.size = w.heap.size + 2 := by rw [hw2, size_alloc, hz1]
  clear hw2 ho1 hb1
  rw [hz1] at hr2 ⊢
  have HO2 := Lib.hid ho2
  have HR2 := Lib.hid hr2
  have HB2 := Lib.hid hb2
  clear ho2 hr2 hb2
  go_wp2_with fail
  have h3 := r1_any (w.heap.size + 1) (s, 0) w2 (by show s.size ≤ _; omega) HR2.out
  rw [HA.out] at h3
  refine h3.mono ?_
  rintro e w3 ⟨rfl, k3⟩
  have ho3 : DocAt w3 w.heap.size dz := blk_kp HO2.out k3.2 (by omega)
  have hb3 : Below w.heap.size w w3 := HB2.out.trans (k3.2.toBelow HB2.out.size (fun i hi => by omega))
  have hz3 : w.heap.size + 2 ≤ w3.heap.size := by have := k3.2.size; omega
  obtain ⟨w4, hw4⟩ : ∃ w4, w4 = w3.alloc (.cells (docC dz) 30) := ⟨_, rfl⟩
  have hd4 : DocAt (w3.alloc (.cells (docC dz) 30)) w3.heap.size dz := blk_new _ _
  have H4 : DcB w w4 (w.heap.size + 1) w3.heap.size A.2 dz := by
    rw [hw4]
    exact ⟨blk_alloc ho3 _, blk_alloc k3.1 _, hd4, hb3.alloc hb3.size _, by omega, by omega⟩
  have H5 := H4.set (doc_setRow H4.doc (d1K A.1))
  have HD4 := Lib.hid hd4
  have HW5 := Lib.hid H5
  simp only [docC, dz, sz] at hw4
  clear h3 k3 ho3 hb3 hd4 H4 H5 HO2 HR2 HB2 HA
  go_wp2_with (first | refine wpList_docst rfl _ _ rfl w3.heap.size dz (d1K A.1) rfl rfl HD4.out ?_ | fail)
  rw [← hw4]
  clear hw4 HD4
  generalize w4.setRow w3.heap.size (docC (d1K A.1)) = w5 at HW5 ⊢
  generalize w3.heap.size = db at HW5 ⊢
  have h6 := r2_any (w.heap.size + 1) A.2 w5 (by omega) HW5.out.rd
  rw [HB.out] at h6
  refine h6.mono ?_
  rintro e w6 ⟨rfl, k6⟩
  have H6 := HW5.out.read k6
  have c1 := cell_of_blk H6.doc 1 (v := .int .i64 0) rfl
  have f1 := free_of_blk H6.doc 1
  have HW7 := Lib.hid (H6.ver B.1)
  clear h6 k6 H6 HW5 HB
  go_wp2_with fail
  clear c1 f1
  generalize w6.setCell ⟨db, 1, none⟩ (.int .i64 B.1) = w7 at HW7 ⊢
  have h8 := r8_any (w.heap.size + 1) B.2 w7 (by omega) HW7.out.rd
  rw [HC.out] at h8
  refine h8.mono ?_
  rintro e w8 ⟨rfl, k8⟩
  have H8 := HW7.out.read k8
  have c2 := cell_of_blk H8.doc 2 (v := .int .i64 0) rfl
  have f2 := free_of_blk H8.doc 2
  have HW9 := Lib.hid (H8.exp C.1)
  have c0 : (w8.setCell ⟨db, 2, none⟩ (.int .i64 C.1)).cell? ⟨db, 0, none⟩ = some (.int .i64 A.1) := cell_of_blk HW9.out.doc 0 (v := .int .i64 A.1) rfl
  clear h8 k8 H8 HW7 HC
  go_wp2_with fail
  clear c2 f2 c0
  generalize w8.setCell ⟨db, 2, none⟩ (.int .i64 C.1) = w9 at HW9 ⊢
  refine (HF.out w9).mono ?_
  rintro e w10 ⟨rfl, hb10⟩
  have H10 := HW9.out.later hb10
  have H10' : DcB w w10 (w.heap.size + 1) db C.2 d0 := by rw [HH.out]; exact H10
  obtain ⟨w11, hw11⟩ : ∃ w11, w11 = w10.alloc (.cells #[.nilFunc, .nilFunc, .nilFunc, .nilFunc] 82) := ⟨_, rfl⟩
  have HW12 : Hid (DcB w w11 (w.heap.size + 1) db C.2 d0) := Lib.hid (by rw [hw11]; exact H10'.later ((Below.refl _ w10).alloc (Nat.le_refl _) _))
  obtain ⟨n0, f0⟩ := form_new w10 0 (by decide)
  obtain ⟨n1, f1⟩ := form_new w10 1 (by decide)
  obtain ⟨n2, f2⟩ := form_new w10 2 (by decide)
  obtain ⟨n3, f3⟩ := form_new w10 3 (by decide)
  clear hb10 H10 H10' HW9 HF HH
  go_wp2_with fail
  rw [← hw11]
  clear hw11 n0 n1 n2 n3 f0 f1 f2 f3
  refine (rend_any (w.heap.size + 1) C.2 w11 (by omega) HW12.out.rd).mono ?_
  rintro e w13 ⟨rfl, k13⟩
  have HW13 := Lib.hid (HW12.out.read k13)
  clear k13 HW12
  generalize rEnd C.2 = r5 at HW13 ⊢
  by_cases h0 : r5.2 = 0
  case neg =>
    have b1 : (r5.2 == 0) = false := beq_eq_false_iff_ne.2 h0
    have b2 : (r5.2 != 0) = true := by rw [bne, b1]; rfl
    have HD := Lib.hid (doc_setRow HW13.out.out dz)
    clear h0
    go_wp2_with (first | refine wpList_docst rfl _ _ rfl w.heap.size dz dz rfl rfl HW13.out.out ?_ | fail)
    refine doc_ret _ _ w.heap.size dz 3 HD.out.1 rfl rfl rfl rfl ?_
    exact ⟨dz, rfl, rfl, HW13.out.below.trans (HD.out.2.toBelow HW13.out.below.size (fun i hi => by omega))⟩
  case pos =>
    have b1 : (r5.2 == 0) = true := beq_iff_eq.2 h0
    have b2 : (r5.2 != 0) = false := by rw [bne, b1]; rfl
    have HCC := Lib.hid (HCk.out w13)
    clear HCk
    go_wp2_with (first | refine wpList_docg rfl _ rfl db d0 rfl HW13.out.doc ?_ | fail)
    refine HCC.out.mono ?_
    rintro e w14 ⟨rfl, hb14⟩
    have HW14 := Lib.hid (HW13.out.later hb14)
    clear hb14 HW13 HCC
    have HD := Lib.hid (doc_setRow HW14.out.out dz)
    clear h0
    go_wp2_with (first | refine wpList_docst rfl _ _ rfl w.heap.size dz dz rfl rfl HW14.out.out ?_ | fail)
    refine doc_ret _ _ w.heap.size dz 3 HD.out.1 rfl rfl rfl rfl ?_
    exact ⟨dz, rfl, rfl, HW14.out.below.trans (HD.out.2.toBelow HW14.out.below.size (fun i hi => by omega))⟩

/-! ### a root's document: zeroed, good -/
theorem enter_rg : Ent 92 := fun args w => by kernel_rfl
theorem enter_rl : Ent 93 := fun args w => by kernel_rfl
theorem enter_rt : Ent 94 := fun args w => by kernel_rfl
theorem enter_rz : Ent 95 := fun args w => by kernel_rfl
theorem enter_r1 : Ent 148 := fun args w => by kernel_rfl
set_option maxRecDepth 100000 in
theorem goodr1_any (b o : Nat) (s : SV) (S : SetT) (w : World) (c0 : w.cell? ⟨b, o, none⟩ = some (.slice s.ad s.n s.c)) (c1 : w.cell? ⟨b, o + 1, none⟩ = some (.int .i64 s.need)) (hS : SetM w s S) (hm : S.1.length ≤ 100000000) :
    Calls Tryz.prog 148 #[.pointer (some ⟨b, o, none⟩)] w fun e w' => e = .returned (.bool (!setGood S)) ∧ Below w.heap.size w w' := by
  have HC := qcheck_any s S w hS hm
  generalize setGood S = g at HC ⊢
  have HCs := Lib.hid HC
  clear HC hS
  cases g with
  | true =>
    have e1 : chkE true = 0 := rfl
    rw [e1] at HCs
    go_enter Tryz.func148, Tryz.ntmps148
    go_wp2_with fail
    refine HCs.out.mono ?_
    rintro e w1 ⟨rfl, hb⟩
    have HB := Lib.hid hb
    clear hb
    go_wp2_with fail
    go_ret
    exact ⟨rfl, HB.out⟩
  | false =>
    have e1 : chkE false = 1 := rfl
    rw [e1] at HCs
    go_enter Tryz.func148, Tryz.ntmps148
    go_wp2_with fail
    refine HCs.out.mono ?_
    rintro e w1 ⟨rfl, hb⟩
    have HB := Lib.hid hb
    clear hb
    go_wp2_with fail
    go_ret
    exact ⟨rfl, HB.out⟩
def SetsM (w : World) (d : DV) (SL : List SetT) : Prop := SL.length = 5 ∧ ∀ (k : Nat) (s : SV) (S : SetT), (setL d)[k]? = some s → SL[k]? = some S → SetM w s S ∧ S.1.length ≤ 100000000
theorem SetsM.below {w w' : World} {d : DV} {SL : List SetT} (h : SetsM w d SL) (k : Below w.heap.size w w') : SetsM w' d SL := ⟨h.1, fun j s S h1 h2 => ⟨(h.2 j s S h1 h2).1.below k, (h.2 j s S h1 h2).2⟩⟩
def PsRel (SL : List SetT) (w : World) (i : Value) (wr : World) : Prop := ∃ k : Nat, k ≤ 5 ∧ i = .int .i64 k ∧ (SL.take k).all setGood = true ∧ Below w.heap.size w wr
set_option maxRecDepth 100000 in
set_option maxHeartbeats 2000000 in
theorem psidx_any (b q : Nat) (d : DV) (SL : List SetT) (w : World) (hd : DocAt w b d) (hq : w.heap[q]? = some (.cells (setPs b) 134 (0, 0))) (hS : SetsM w d SL) :
    Calls Tryz.prog 177 #[.slice (some ⟨q, 0, none⟩) 5 5, .func (.func 148) #[] #[]] w fun e w' => ∃ i : Int, e = .returned (.int .i64 i) ∧ decide (0 ≤ i) = !(SL.all setGood) ∧ Below w.heap.size w w' := by
  have eg := enter_r1
  have HD := Lib.hid hd
  have HQ := Lib.hid hq
  have HS := Lib.hid hS
  clear hd hq hS
  go_enter Tryz.func177, Tryz.ntmps177
  go_wp2_with fail
  go_loopw [8] (fun i wr => PsRel SL w i wr) (fun i _ => 5 - (intOf i).toNat)
  case atStart => exact ⟨0, Nat.zero_le _, rfl, rfl, Below.refl _ _⟩
  case round =>
    obtain ⟨k, hk, rfl, ha, hb⟩ := hrel
    have HA := Lib.hid ha
    have HB := Lib.hid hb
    by_cases hlt : k < 5
    case pos =>
      have hl5 : k < SL.length := by rw [HS.out.1]; exact hlt
      obtain ⟨s, hs, c1, c2⟩ := setL_at d b wr (HD.out.later hb) k hlt
      have c0 := setPs_at b q wr (blk_later HQ.out hb) k hlt
      obtain ⟨hsm, hsl⟩ := (HS.out.below hb).2 k s SL[k] hs (List.getElem?_eq_getElem hl5)
      have HC := goodr1_any b (3 + 2 * k) s SL[k] wr c1 c2 hsm hsl
      have htk : SL.take (k + 1) = SL.take k ++ [SL[k]] := List.take_succ_eq_append_getElem hl5
      have hmem : SL[k] ∈ SL := List.getElem_mem hl5
      generalize SL[k] = S at HC htk hmem
      have hno : setGood S = false → SL.all setGood = false := fun h => by
        rw [Bool.eq_false_iff]
        intro h2
        have := List.all_eq_true.1 h2 S hmem
        rw [h] at this
        cases this
      have hyes : setGood S = true → (SL.take (k + 1)).all setGood = true := fun h => by rw [htk, List.all_append, HA.out]; simp [h]
      have HNo := Lib.hid hno
      have HYes := Lib.hid hyes
      have hk0 : (0 : Int) ≤ (k : Int) := Int.natCast_nonneg _
      have hk1 : (k : Int) < 5 := by omega
      generalize setGood S = g at HC HNo HYes
      have HCs := Lib.hid HC
      clear HC hno hyes htk hmem hsm hsl hs c1 c2 ha hb
      go_wp2_with fail
      refine HCs.out.mono ?_
      rintro e w1 ⟨rfl, hb1⟩
      have HB1 := Lib.hid (HB.out.trans (hb1.mono HB.out.size))
      clear hb1
      cases g with
      | false =>
        have HX := Lib.hid (HNo.out rfl)
        go_wp2_with fail
        go_ret
        refine ⟨_, rfl, ?_, HB1.out⟩
        rw [HX.out, decide_eq_true hk0]
        rfl
      | true =>
        have HX := Lib.hid (HYes.out rfl)
        go_wp2_with fail
        refine ⟨⟨k + 1, hlt, rfl, HX.out, HB1.out⟩, ?_⟩
        show 5 - ((k : Int) + 1).toNat < 5 - (k : Int).toNat
        omega
    case neg =>
      obtain rfl : k = 5 := by omega
      have hall : SL.all setGood = true := by
        have h := HA.out
        rwa [List.take_of_length_le (by rw [HS.out.1]; exact Nat.le_refl _)] at h
      have HX := Lib.hid hall
      clear hall ha hb
      go_wp2_with fail
      go_ret
      refine ⟨_, rfl, ?_, HB.out⟩
      rw [HX.out]
      rfl
set_option maxRecDepth 100000 in
theorem pscon_any (b q : Nat) (d : DV) (SL : List SetT) (w : World) (hd : DocAt w b d) (hq : w.heap[q]? = some (.cells (setPs b) 134 (0, 0))) (hS : SetsM w d SL) :
    Calls Tryz.prog 147 #[.slice (some ⟨q, 0, none⟩) 5 5, .func (.func 148) #[] #[]] w fun e w' => e = .returned (.bool (!(SL.all setGood))) ∧ Below w.heap.size w w' := by
  have HC := Lib.hid (psidx_any b q d SL w hd hq hS)
  clear hd hq hS
  go_enter Tryz.func147, Tryz.ntmps147
  go_wp2_with fail
  refine HC.out.mono ?_
  rintro e w1 ⟨i, rfl, hi, hb⟩
  have HB := Lib.hid hb
  have HI := Lib.hid hi
  clear hb hi HC
  go_wp2_with fail
  go_ret
  rw [← HI.out]
  exact ⟨rfl, HB.out⟩
def rootGood (d : DV) (SL : List SetT) : Bool := decide ((cpV d.org 0 d.log).2 = 0) && SL.all setGood
set_option maxRecDepth 100000 in
set_option maxHeartbeats 2000000 in
theorem goodrt_any (b : Nat) (d : DV) (SL : List SetT) (w : World) (h : DocAt w b d) (hS : SetsM w d SL) (ho : d.org.size ≤ 9223372036854775807) (hr : d.log.size ≤ 9223372036854775807) (hV : VarsP w) : Calls Tryz.prog 92 #[.pointer (some ⟨b, 0, none⟩)] w fun e w' => e = .returned (.bool (rootGood d SL)) ∧ Below w.heap.size w w' := by
  have HT := Lib.hid (fun W (hW : Below w.heap.size w W) => text_anyP d.org 0 d.log W ho hr (hV.below hW))
  have HD := Lib.hid h
  have HS := Lib.hid hS
  have c13 := cell_of_blk h 13 (v := .string d.log) rfl
  have c14 := cell_of_blk h 14 (v := .string d.org) rfl
  obtain ⟨R, hR⟩ : ∃ R, R = rootGood d SL := ⟨_, rfl⟩
  rw [← hR]
  unfold rootGood at hR
  generalize cpV d.org 0 d.log = q at HT hR
  have HR := Lib.hid hR
  have cP : ∀ dd os, Calls Tryz.prog 79 #[.agg #[.string d.org, .int .i64 0, .string d.log]] (grow (redrawn w dd) os) fun e w'' => e = .returned (.tuple #[.string q.1, .int .i64 q.2]) ∧ ∃ p : Regrown, w'' = grow (redrawn w p.d) p.os :=
    fun dd os => Calls.regrown_of (HT.out _ (below_regrown w dd os))
  have c13r := cell_regrown c13
  have c14r := cell_regrown c14
  clear h hS hV hR HT
  go_enter Tryz.func92, Tryz.ntmps92
  go_wp2_with fail
  refine wp_region_quiet_below (by kernel_rfl) (by kernel_rfl) ?_
  repeat quiet_step (with_reducible exact cP _ _)
  refine wpQuiet_nil ?_
  intro w5 hw5
  obtain ⟨⟨dq, osq⟩, hw''⟩ := hw5
  have hb5 : Below w.heap.size w w5 := by rw [hw'']; exact below_regrown w dq osq
  have HB5 := Lib.hid hb5
  have HD5 := Lib.hid (HD.out.later hb5)
  have HS5 := Lib.hid (HS.out.below hb5)
  clear hw'' hb5 c13 c14 c13r c14r cP HD HS
  by_cases h0 : q.2 = 0
  · have b1 : (q.2 == 0) = true := beq_iff_eq.2 h0
    have HR2 : Hid (R = SL.all setGood) := Lib.hid (by rw [HR.out, decide_eq_true h0]; rfl)
    have hlt : b < w5.heap.size := (Array.getElem?_eq_some_iff.1 HD5.out).1
    clear h0
    go_wp2_with fail
    refine (sets_any b w5 hlt).mono ?_
    rintro e w6 ⟨qb, rfl, hq, hqa, hb6⟩
    have HC := pscon_any b qb d SL w6 (HD5.out.later hb6) hqa (HS5.out.below hb6)
    have HB6 := Lib.hid (HB5.out.trans (hb6.mono HB5.out.size))
    generalize SL.all setGood = g at HC HR2
    have HCs := Lib.hid HC
    clear HC hqa hb6 hq
    go_wp2_with fail
    refine HCs.out.mono ?_
    rintro e w7 ⟨rfl, hb7⟩
    have HB7 := Lib.hid (HB6.out.trans (hb7.mono HB6.out.size))
    clear hb7
    go_wp2_with fail
    go_ret
    rw [HR2.out]
    exact ⟨by cases g <;> rfl, HB7.out⟩
  · have b1 : (q.2 == 0) = false := beq_eq_false_iff_ne.2 h0
    have HR2 : Hid (R = false) := Lib.hid (by rw [HR.out, decide_eq_false h0]; rfl)
    clear h0
    go_wp2_with fail
    go_ret
    rw [HR2.out]
    exact ⟨rfl, HB5.out⟩

/-! ### a set taken -/
theorem OwnS.txm {w : World} {base : Nat} {v : Value} {L : List ByteArray} (h : OwnS w base v L) : ∃ ad cap, v = .slice ad L.length cap ∧ TxM w ad L := by
  obtain ⟨ao, cap, hv, -, -, h2⟩ := OwnL.form h
  refine ⟨ao, cap, hv, fun i f hf => ?_⟩
  have hi : i < L.length := (List.getElem?_eq_some_iff.1 hf).1
  obtain ⟨g, hg, -, -, hc⟩ := h2 (by omega)
  have e1 : (L.flatMap (fun s : ByteArray => [Value.string s]))[i]? = some (.string f) := by
    have e2 : L.flatMap (fun s : ByteArray => [Value.string s]) = L.map Value.string := by
      clear hc hf h2 h hv hi
      induction L with
      | nil => rfl
      | cons x r ih => rw [List.flatMap_cons, List.map_cons, ih]; rfl
    rw [e2, List.getElem?_map, hf]
    rfl
  refine ⟨g, 0, hg, ?_⟩
  rw [Nat.zero_add, hc _ (by omega)]
  exact e1
def takeIN (r : RS) : Nat → List ByteArray × RS
  | 0 => ([], r)
  | k + 1 => ((takeIN r k).1 ++ [(rRaw (takeIN r k).2 32).1], (rRaw (takeIN r k).2 32).2)
theorem takeIN_size (r : RS) : ∀ k, (takeIN r k).2.1.size ≤ r.1.size
  | 0 => Nat.le_refl _
  | k + 1 => Nat.le_trans (rRaw_size _ _).2 (takeIN_size r k)
theorem takeIN_len (r : RS) : ∀ k, (takeIN r k).1.length = k
  | 0 => rfl
  | k + 1 => by show ((takeIN r k).1 ++ [_]).length = k + 1; rw [List.length_append, takeIN_len r k]; rfl
def tsA (r : RS) : List ByteArray × RS := takeIN (rNum r 1).2 (rNum r 1).1.toNat
def tsB (r : RS) : Int × RS := rNum (tsA r).2 1
def tsF (r : RS) : RS := if setGood ((tsA r).1, (tsB r).1) = true then (tsB r).2 else rFail (tsB r).2 3
def takeSetP (r : RS) : SetT × RS := (if (tsF r).2 = 0 then ((tsA r).1, (tsB r).1) else ([], 0), tsF r)
theorem tsF_size (r : RS) : (tsA r).2.1.size ≤ r.1.size ∧ (tsB r).2.1.size ≤ r.1.size ∧ (tsF r).1.size ≤ r.1.size := by
  have h1 : (rNum r 1).2.1.size ≤ r.1.size := (rRaw_size r 1).2
  have h2 : (tsA r).2.1.size ≤ (rNum r 1).2.1.size := takeIN_size _ _
  have h3 : (tsB r).2.1.size ≤ (tsA r).2.1.size := (rRaw_size _ 1).2
  refine ⟨by omega, by omega, ?_⟩
  unfold tsF
  split
  · omega
  · rw [rFail_size]; omega
def TqPost (b : Nat) (q : SetT × RS) (w : World) (e : Ending) (w' : World) : Prop := ∃ ad c, e = .returned (.agg #[.slice ad q.1.1.length c, .int .i64 q.1.2]) ∧ OwnS w' w.heap.size (.slice ad q.1.1.length c) q.1.1 ∧ RdP 136 b q.2 w w'
theorem keep_cell0 {wr w1 : World} {a : Addr} {v v' : Value} {o : Obj} (c : wr.cell? a = some v) (hg : (wr.alloc o).grownBy w1 v'.ownBlock) (hne : v'.ownBlock ≠ some a.block) : w1.cell? a = some v :=
  ((World.grownBy.cell_far hg) a (show a.block < (wr.alloc o).heap.size by rw [size_alloc]; exact Nat.lt_succ_of_lt (cell_lt c)) (fun e => hne e.symm)).trans (cell_alloc c o)
theorem keep_free0 {wr w1 : World} {a : Addr} {v v' : Value} {o : Obj} (c : wr.cell? a = some v) (f : wr.frozen? a = false) (hg : (wr.alloc o).grownBy w1 v'.ownBlock) (hne : v'.ownBlock ≠ some a.block) : w1.frozen? a = false :=
  ((World.grownBy.frozen_far hg) a (show a.block < (wr.alloc o).heap.size by rw [size_alloc]; exact Nat.lt_succ_of_lt (cell_lt c)) (fun e => hne e.symm)).trans (free_alloc c f o)
structure TqS (w : World) (b : Nat) (L : List ByteArray) (r : RS) (wr : World) : Prop where
  ex : ∃ ad cap, OwnS wr (w.heap.size + 2) (.slice ad L.length cap) L ∧ wr.heap[w.heap.size + 1]? = some (.cells #[.slice ad L.length cap, .int .i64 0] 24 (0, 0))
  out : wr.heap[w.heap.size]? = some (.cells #[.slice none 0 0, .int .i64 0] 24 (0, 0))
  rd : RdP 136 b r w wr
def TqRel (w : World) (b : Nat) (r : RS) (n : Nat) (i : Value) (wr : World) : Prop := ∃ k : Nat, k ≤ n ∧ i = .int .i64 k ∧ TqS w b (takeIN r k).1 (takeIN r k).2 wr
theorem TqS.step {w : World} {b : Nat} {L : List ByteArray} {r r' : RS} {wr w' : World} (H : TqS w b L r wr) (hb : b < w.heap.size) (k : RdP 136 b r' wr w') : TqS w b L r' w' := by
  obtain ⟨ad, cap, ho, hx⟩ := H.ex
  exact ⟨⟨ad, cap, OwnL.kp ho k.2 (fun g hg => by have := (OwnL.lt ho g hg).1; omega), blk_kp hx k.2 (by omega)⟩, blk_kp H.out k.2 (by omega), k.1, H.rd.2.trans k.2⟩
theorem set_ret {fn : Func} {Q : Ending → World → Prop} (a : Act) (w : World) (b : Nat) (ad : Option Addr) (n c : Nat) (need : Int) (h : w.heap[b]? = some (.cells #[.slice ad n c, .int .i64 need] 24 (0, 0)))
    (hf : fn.results = #[.cell 2 24])
    (ha : a.tmps[2]?.getD undef = .pointer (some ⟨b, 0, none⟩)) (hd : a.defers = []) (hQ : Q (.returned (.agg #[.slice ad n c, .int .i64 need])) w) :
    bodyPost Tryz.prog fn Q Exit.ret a w := by
  have c0 := cell_of_blk h 0 (v := .slice ad n c) rfl
  have c1 := cell_of_blk h 1 (v := .int .i64 need) rfl
  refine bodyPost_ret (v := .agg #[.slice ad n c, .int .i64 need]) (by simp only [results, hf]; simp [go_sem, c0, c1, ha]) hd hQ

set_option maxRecDepth 100000 in
set_option maxHeartbeats 2000000 in
theorem taketq_any (b : Nat) (r : RS) (w : World) (hs : r.1.size ≤ 1000000000) (h : Rdr 136 w b r) :
    Calls Tryz.prog 150 #[.pointer (some ⟨b, 0, none⟩)] w (TqPost b (takeSetP r) w) := by
  have hbw : b < w.heap.size := (Array.getElem?_eq_some_iff.1 h).1
  obtain ⟨n, hn, hn255⟩ := rNum1 r
  have hz1 : (rNum r 1).2.1.size ≤ r.1.size := (rRaw_size r 1).2
  obtain ⟨w2, hw2⟩ : ∃ w2, w2 = (w.alloc (.cells #[.slice none 0 0, .int .i64 0] 24)).alloc (.cells #[.slice none 0 0, .int .i64 0] 24) := ⟨_, rfl⟩
  have ho2 : w2.heap[w.heap.size]? = some (.cells #[.slice none 0 0, .int .i64 0] 24 (0, 0)) := by rw [hw2]; exact blk_new1 _ _ _
  have hx2 : w2.heap[w.heap.size + 1]? = some (.cells #[.slice none 0 0, .int .i64 0] 24 (0, 0)) := by rw [hw2]; exact blk_new2 _ _ _
  have hk2 : Kp (fun k => k = b) w w2 := by rw [hw2]; exact ((Kp.refl _ w).alloc _).alloc _
  have hr2 : Rdr 136 w2 b r := by rw [hw2]; exact blk_alloc (blk_alloc h _) _
  have HC := Lib.hid (r1_any b r w2 (by omega) hr2)
  have hI2 : TqS w b [] r w2 := ⟨⟨none, 0, ownL_nil _ _, hx2⟩, ho2, hr2, hk2⟩
  have HI2 := Lib.hid hI2
  have hA : tsA r = takeIN (rNum r 1).2 n := by unfold tsA; rw [hn]; rfl
  have hB : tsB r = rNum (tsA r).2 1 := rfl
  have hF : tsF r = if setGood ((tsA r).1, (tsB r).1) = true then (tsB r).2 else rFail (tsB r).2 3 := rfl
  have hP : takeSetP r = (if (tsF r).2 = 0 then ((tsA r).1, (tsB r).1) else ([], 0), tsF r) := rfl
  obtain ⟨zA, zB, zF⟩ := tsF_size r
  have hlA : (tsA r).1.length = n := by rw [hA, takeIN_len]
  rw [hn] at HC
  unfold TqPost
  generalize takeSetP r = q at hP ⊢
  generalize tsF r = rF at *
  generalize tsB r = B at *
  generalize tsA r = A at *
  generalize (rNum r 1).2 = r1 at *
  have HA := Lib.hid hA
  have HB := Lib.hid hB
  have HF := Lib.hid hF
  have HP := Lib.hid hP
  have HLA := Lib.hid hlA
  clear h hn ho2 hx2 hk2 hr2 hI2 hA hB hF hP hlA
  go_enter Tryz.func150, Tryz.ntmps150
  go_wp2_with fail
  rw [← hw2]
  clear hw2
  refine HC.out.mono ?_
  rintro e w3 ⟨rfl, h3⟩
  have HI3 := Lib.hid (HI2.out.step hbw h3)
  clear h3 HC HI2
  go_wp2_with fail
  go_loopw [6] (fun i wr => TqRel w b r1 n i wr) (fun i _ => n - (intOf i).toNat)
  case atStart => exact ⟨0, Nat.zero_le _, rfl, HI3.out⟩
  case round =>
    clear HI3
    obtain ⟨k, hk, rfl, hI⟩ := hrel
    have HI := Lib.hid hI
    have hsz := takeIN_size r1 k
    have hln := Lib.hid (takeIN_len r1 k)
    have hwle : w.heap.size + 2 ≤ wr.heap.size := by obtain ⟨ad, cap, -, hx⟩ := hI.ex; have := (Array.getElem?_eq_some_iff.1 hx).1; omega
    clear hI
    by_cases hlt : k < n
    case pos =>
      have ht1 : (takeIN r1 (k + 1)).1 = (takeIN r1 k).1 ++ [(rRaw (takeIN r1 k).2 32).1] := rfl
      have ht2 : (takeIN r1 (k + 1)).2 = (rRaw (takeIN r1 k).2 32).2 := rfl
      have HT1 := Lib.hid ht1
      have HT2 := Lib.hid ht2
      have hk0 : (k : Int) < (n : Int) := by omega
      clear ht1 ht2
      generalize (takeIN r1 k).2 = ra at HI HT1 HT2 hsz
      generalize (takeIN r1 k).1 = L at HI HT1 hln
      have HC1 := Lib.hid (rhash_any b ra wr.drew (by omega) HI.out.rd.1)
      generalize rRaw ra 32 = C at HC1 HT1 HT2
      obtain ⟨ad, cap, ho, hx⟩ := HI.out.ex
      have HO := Lib.hid ho
      have HX := Lib.hid hx
      have c0 := cell_of_blk hx 0 (v := .slice ad L.length cap) rfl
      have f0 := free_of_blk hx 0
      have hne : (Value.slice ad L.length cap).ownBlock ≠ some (w.heap.size + 1) := fun h => by have := (OwnL.lt ho _ h).1; omega
      obtain ⟨i0, hi, hz0, hz1', hz2'⟩ := info_parts infoStr
      have HI2 := Lib.hid hz2'
      clear hz2' ho hx
      go_wp2_with fail
      go_region_law ((first
        | (refine step_appL (by rfl) _ _ 22 (by rfl) i0 (.string ⟨#[]⟩) 16 Tryz.underlying22 hi hz0 hz1' HI2.out rfl (by decide) (w.heap.size + 2) (.slice ad L.length cap) L (by rfl) ((OwnL.kp HO.out k4 (fun g hg => by have := (OwnL.lt HO.out g hg).1; omega)).alloc _) C.1 rfl ⟨w4.heap.size, 0, none⟩ 1 (by rfl) (one_str w4 C.1 _) (by intro u hu; simp at hu; subst hu; rfl) (by have := hln.out; omega) (by decide) (by have := k4.size; simp; omega) ?_; intro v' w8 ho8 hg8 hv8; obtain ⟨ao8, cap8, rfl, -, -, -⟩ := OwnL.form ho8; have e0 := keep_cell0 d0 hg8 hne; have e1 := keep_free0 d0 g0 hg8 hne)
        | (go_simp; go_at_call 117; refine HC1.out.mono ?_; rintro e w4 ⟨rfl, h4⟩; have k4 : Kp (fun k => k = b) wr w4 := (Kp.refl (fun k => k = b) wr).drew.trans h4.2; have d0 := cell_of_blk (blk_kp HX.out k4 (by omega)) 0 (v := .slice ad L.length cap) rfl; have g0 := free_of_blk (blk_kp HX.out k4 (by omega)) 0; have d0a := fun o => cell_alloc d0 o)))
      all_goals
        have hown := OwnL.lt HO.out
        have k8 : Kp (fun k => (Value.slice ad L.length cap).ownBlock = some k) w4 w8 := ((Kp.refl (fun k => (Value.slice ad L.length cap).ownBlock = some k) w4).alloc _).grown hg8 (fun k h => .inl h)
        have k9 : Kp (fun k => k = w.heap.size + 1) w8 (w8.setCell ⟨w.heap.size + 1, 0, none⟩ (.slice ao8 (L ++ [C.1]).length cap8)) := (Kp.refl (fun k => k = w.heap.size + 1) w8).setCell (p := ⟨w.heap.size + 1, 0, none⟩) (.inl rfl) _
        have hI9 : TqS w b (L ++ [C.1]) C.2 (w8.setCell ⟨w.heap.size + 1, 0, none⟩ (.slice ao8 (L ++ [C.1]).length cap8)) := by
          refine ⟨⟨ao8, cap8, OwnL.kp ho8 k9 (fun g hg => by have := (OwnL.lt ho8 g hg).1; omega), blk_set (blk_kp (blk_kp HX.out k4 (by omega)) k8 (fun h => hne h)) _⟩, ?_, ?_, ?_⟩
          · exact blk_kp (blk_kp (blk_kp HI.out.out k4 (by omega)) k8 (fun h => by have := (hown _ h).1; omega)) k9 (by omega)
          · exact blk_kp (blk_kp h4.1 k8 (fun h => by have := (hown _ h).1; omega)) k9 (by omega)
          · exact ((HI.out.rd.2.trans k4).trans' k8 (fun i hi => .inr (by have := (hown i hi).1; omega))).trans' k9 (fun i hi => .inr (by omega))
        have HI9 := Lib.hid hI9
        have hll : (L ++ [C.1]).length = L.length + 1 := by rw [List.length_append]; rfl
        clear hown k8 k9 hI9 ho8 hg8 hv8 e0 e1 d0 g0 d0a h4 k4 c0 f0
        go_wp2_with fail
        refine ⟨⟨k + 1, hlt, rfl, ?_⟩, ?_⟩
        · rw [HT1.out, HT2.out, ← hll]
          exact HI9.out
        · show n - ((k : Int) + 1).toNat < n - (k : Int).toNat
          omega
    case neg =>
      obtain rfl : k = n := by omega
      have hI := HI.out
      rw [← HA.out] at hI
      have c2 := r1_any b A.2 wr (by omega) hI.rd.1
      rw [← HB.out] at c2
      have HC2 := Lib.hid c2
      obtain ⟨ad, cap, ho, hx⟩ := hI.ex
      have HO := Lib.hid ho
      have HX := Lib.hid hx
      have HIo := Lib.hid hI.out
      have HIr := Lib.hid hI.rd
      clear c2 ho hx hI HI hln hsz
      go_wp2_with fail
      refine HC2.out.mono ?_
      rintro e w4 ⟨rfl, k4⟩
      have hx4 := blk_kp HX.out k4.2 (by omega)
      have x0 := cell_of_blk hx4 0 (v := .slice ad A.1.length cap) rfl
      have x1 := cell_of_blk hx4 1 (v := .int .i64 0) rfl
      have xf1 := free_of_blk hx4 1
      have k5 : Kp (fun k => k = w.heap.size + 1) w4 (w4.setCell ⟨w.heap.size + 1, 1, none⟩ (.int .i64 B.1)) := (Kp.refl (fun k => k = w.heap.size + 1) w4).setCell (p := ⟨w.heap.size + 1, 1, none⟩) (.inl rfl) _
      have H5 : Hid (OwnS (w4.setCell ⟨w.heap.size + 1, 1, none⟩ (.int .i64 B.1)) (w.heap.size + 2) (.slice ad A.1.length cap) A.1 ∧ (w4.setCell ⟨w.heap.size + 1, 1, none⟩ (.int .i64 B.1)).heap[w.heap.size + 1]? = some (.cells #[.slice ad A.1.length cap, .int .i64 B.1] 24 (0, 0)) ∧ (w4.setCell ⟨w.heap.size + 1, 1, none⟩ (.int .i64 B.1)).heap[w.heap.size]? = some (.cells #[.slice none 0 0, .int .i64 0] 24 (0, 0)) ∧ RdP 136 b B.2 w (w4.setCell ⟨w.heap.size + 1, 1, none⟩ (.int .i64 B.1))) := by
        refine Lib.hid ⟨OwnL.kp (OwnL.kp HO.out k4.2 (fun g hg => by have := (OwnL.lt HO.out g hg).1; omega)) k5 (fun g hg => by have := (OwnL.lt HO.out g hg).1; omega), blk_set hx4 _, blk_kp (blk_kp HIo.out k4.2 (by omega)) k5 (by omega), ⟨blk_kp k4.1 k5 (by omega), (HIr.out.2.trans k4.2).trans' k5 (fun i hi => .inr (by omega))⟩⟩
      clear hx4 k5 k4 HO HX HIo HIr HC2
      go_wp2_with fail
      clear x0 x1 xf1
      generalize w4.setCell ⟨w.heap.size + 1, 1, none⟩ (.int .i64 B.1) = w5 at H5 ⊢
      obtain ⟨a2, c2, hv2, htx⟩ := OwnS.txm H5.out.1
      cases hv2
      have hq := qcheck_any ⟨ad, A.1.length, cap, B.1⟩ (A.1, B.1) w5 ⟨rfl, rfl, htx⟩ (by show A.1.length ≤ 100000000; have := HLA.out; omega)
      dsimp only at hq
      generalize setGood (A.1, B.1) = g at hq HF
      have HQ := Lib.hid hq
      clear hq htx
      cases g with
      | true =>
        obtain rfl : rF = B.2 := by rw [HF.out, if_pos rfl]
        refine HQ.out.mono ?_
        rintro e w7 ⟨rfl, hb7⟩
        have H7 : Hid (OwnS w7 (w.heap.size + 2) (.slice ad A.1.length cap) A.1 ∧ w7.heap[w.heap.size + 1]? = some (.cells #[.slice ad A.1.length cap, .int .i64 B.1] 24 (0, 0)) ∧ w7.heap[w.heap.size]? = some (.cells #[.slice none 0 0, .int .i64 0] 24 (0, 0)) ∧ RdP 136 b B.2 w w7) :=
          Lib.hid ⟨OwnL.below H5.out.1 hb7, blk_later H5.out.2.1 hb7, blk_later H5.out.2.2.1 hb7, blk_later H5.out.2.2.2.1 hb7, H5.out.2.2.2.2.below hb7⟩
        clear hb7 H5 HQ
        have ee : chkE true = 0 := rfl
        rw [ee]
        go_wp2_with fail
        refine (err_any b B.2 w7 H7.out.2.2.2.1).mono ?_
        rintro e w8 ⟨rfl, rfl⟩
        by_cases he : B.2.2 = 0
        · have b1 : (B.2.2 == 0) = true := beq_iff_eq.2 he
          have b2 : (B.2.2 != 0) = false := by rw [bne, b1]; rfl
          obtain rfl : q = ((A.1, B.1), B.2) := by rw [HP.out, if_pos he]
          have x0 := cell_of_blk H7.out.2.1 0 (v := .slice ad A.1.length cap) rfl
          have x1 := cell_of_blk H7.out.2.1 1 (v := .int .i64 B.1) rfl
          have o0 := cell_of_blk H7.out.2.2.1 0 (v := .slice none 0 0) rfl
          have o1 := cell_of_blk H7.out.2.2.1 1 (v := .int .i64 0) rfl
          have fo0 := free_of_blk H7.out.2.2.1 0
          have fo1 := free_of_blk H7.out.2.2.1 1
          have k8 : Kp (fun k => k = w.heap.size) w7 ((w7.setCell ⟨w.heap.size, 0, none⟩ (.slice ad A.1.length cap)).setCell ⟨w.heap.size, 1, none⟩ (.int .i64 B.1)) := ((Kp.refl (fun k => k = w.heap.size) w7).setCell (p := ⟨w.heap.size, 0, none⟩) (.inl rfl) _).setCell (p := ⟨w.heap.size, 1, none⟩) (.inl rfl) _
          have hret : ((w7.setCell ⟨w.heap.size, 0, none⟩ (.slice ad A.1.length cap)).setCell ⟨w.heap.size, 1, none⟩ (.int .i64 B.1)).heap[w.heap.size]? = some (.cells #[.slice ad A.1.length cap, .int .i64 B.1] 24 (0, 0)) := blk_set (blk_set H7.out.2.2.1 _) _
          have HRet := Lib.hid hret
          have HO8 := Lib.hid (OwnL.base (OwnL.kp H7.out.1 k8 (fun g hg => by have := (OwnL.lt H7.out.1 g hg).1; omega)) (base' := w.heap.size) (fun g hg => by have := (OwnL.lt H7.out.1 g hg).1; omega))
          have HR8 : Hid (RdP 136 b B.2 w _) := Lib.hid ⟨blk_kp H7.out.2.2.2.1 k8 (by omega), H7.out.2.2.2.2.trans' k8 (fun i hi => .inr (by omega))⟩
          clear hret k8 he
          go_wp2_with fail
          exact set_ret _ _ w.heap.size ad A.1.length cap B.1 HRet.out rfl rfl rfl ⟨ad, cap, rfl, HO8.out, HR8.out⟩
        · have b1 : (B.2.2 == 0) = false := beq_eq_false_iff_ne.2 he
          have b2 : (B.2.2 != 0) = true := by rw [bne, b1]; rfl
          obtain rfl : q = (([], 0), B.2) := by rw [HP.out, if_neg he]
          have o0 := cell_of_blk H7.out.2.2.1 0 (v := .slice none 0 0) rfl
          have o1 := cell_of_blk H7.out.2.2.1 1 (v := .int .i64 0) rfl
          have fo0 := free_of_blk H7.out.2.2.1 0
          have fo1 := free_of_blk H7.out.2.2.1 1
          have k8 : Kp (fun k => k = w.heap.size) w7 ((w7.setCell ⟨w.heap.size, 0, none⟩ (.slice none 0 0)).setCell ⟨w.heap.size, 1, none⟩ (.int .i64 0)) := ((Kp.refl (fun k => k = w.heap.size) w7).setCell (p := ⟨w.heap.size, 0, none⟩) (.inl rfl) _).setCell (p := ⟨w.heap.size, 1, none⟩) (.inl rfl) _
          have hret : ((w7.setCell ⟨w.heap.size, 0, none⟩ (.slice none 0 0)).setCell ⟨w.heap.size, 1, none⟩ (.int .i64 0)).heap[w.heap.size]? = some (.cells #[.slice none 0 0, .int .i64 0] 24 (0, 0)) := blk_set (blk_set H7.out.2.2.1 _) _
          have HRet := Lib.hid hret
          have HR8 : Hid (RdP 136 b B.2 w _) := Lib.hid ⟨blk_kp H7.out.2.2.2.1 k8 (by omega), H7.out.2.2.2.2.trans' k8 (fun i hi => .inr (by omega))⟩
          clear hret k8 he
          go_wp2_with fail
          exact set_ret _ _ w.heap.size none 0 0 0 HRet.out rfl rfl rfl ⟨none, 0, rfl, ownL_nil _ _, HR8.out⟩
      | false =>
        obtain rfl : rF = rFail B.2 3 := by rw [HF.out]; exact if_neg (by decide)
        refine HQ.out.mono ?_
        rintro e w6 ⟨rfl, hb7⟩
        have H6 : Hid (OwnS w6 (w.heap.size + 2) (.slice ad A.1.length cap) A.1 ∧ w6.heap[w.heap.size + 1]? = some (.cells #[.slice ad A.1.length cap, .int .i64 B.1] 24 (0, 0)) ∧ w6.heap[w.heap.size]? = some (.cells #[.slice none 0 0, .int .i64 0] 24 (0, 0)) ∧ RdP 136 b B.2 w w6) :=
          Lib.hid ⟨OwnL.below H5.out.1 hb7, blk_later H5.out.2.1 hb7, blk_later H5.out.2.2.1 hb7, blk_later H5.out.2.2.2.1 hb7, H5.out.2.2.2.2.below hb7⟩
        clear hb7 H5 HQ
        have ee : chkE false = 1 := rfl
        rw [ee]
        go_wp2_with fail
        refine (fail_any b B.2 3 w6 H6.out.2.2.2.1).mono ?_
        rintro e w7 ⟨rfl, k7⟩
        have H7 : Hid (OwnS w7 (w.heap.size + 2) (.slice ad A.1.length cap) A.1 ∧ w7.heap[w.heap.size + 1]? = some (.cells #[.slice ad A.1.length cap, .int .i64 B.1] 24 (0, 0)) ∧ w7.heap[w.heap.size]? = some (.cells #[.slice none 0 0, .int .i64 0] 24 (0, 0)) ∧ RdP 136 b (rFail B.2 3) w w7) :=
          Lib.hid ⟨OwnL.kp H6.out.1 k7.2 (fun g hg => by have := (OwnL.lt H6.out.1 g hg).1; omega), blk_kp H6.out.2.1 k7.2 (by omega), blk_kp H6.out.2.2.1 k7.2 (by omega), k7.1, H6.out.2.2.2.2.trans k7.2⟩
        clear k7 H6
        go_wp2_with fail
        refine (err_any b (rFail B.2 3) w7 H7.out.2.2.2.1).mono ?_
        rintro e w8 ⟨rfl, rfl⟩
        by_cases he : (rFail B.2 3).2 = 0
        · have b1 : ((rFail B.2 3).2 == 0) = true := beq_iff_eq.2 he
          have b2 : ((rFail B.2 3).2 != 0) = false := by rw [bne, b1]; rfl
          obtain rfl : q = ((A.1, B.1), (rFail B.2 3)) := by rw [HP.out, if_pos he]
          have x0 := cell_of_blk H7.out.2.1 0 (v := .slice ad A.1.length cap) rfl
          have x1 := cell_of_blk H7.out.2.1 1 (v := .int .i64 B.1) rfl
          have o0 := cell_of_blk H7.out.2.2.1 0 (v := .slice none 0 0) rfl
          have o1 := cell_of_blk H7.out.2.2.1 1 (v := .int .i64 0) rfl
          have fo0 := free_of_blk H7.out.2.2.1 0
          have fo1 := free_of_blk H7.out.2.2.1 1
          have k8 : Kp (fun k => k = w.heap.size) w7 ((w7.setCell ⟨w.heap.size, 0, none⟩ (.slice ad A.1.length cap)).setCell ⟨w.heap.size, 1, none⟩ (.int .i64 B.1)) := ((Kp.refl (fun k => k = w.heap.size) w7).setCell (p := ⟨w.heap.size, 0, none⟩) (.inl rfl) _).setCell (p := ⟨w.heap.size, 1, none⟩) (.inl rfl) _
          have hret : ((w7.setCell ⟨w.heap.size, 0, none⟩ (.slice ad A.1.length cap)).setCell ⟨w.heap.size, 1, none⟩ (.int .i64 B.1)).heap[w.heap.size]? = some (.cells #[.slice ad A.1.length cap, .int .i64 B.1] 24 (0, 0)) := blk_set (blk_set H7.out.2.2.1 _) _
          have HRet := Lib.hid hret
          have HO8 := Lib.hid (OwnL.base (OwnL.kp H7.out.1 k8 (fun g hg => by have := (OwnL.lt H7.out.1 g hg).1; omega)) (base' := w.heap.size) (fun g hg => by have := (OwnL.lt H7.out.1 g hg).1; omega))
          have HR8 : Hid (RdP 136 b (rFail B.2 3) w _) := Lib.hid ⟨blk_kp H7.out.2.2.2.1 k8 (by omega), H7.out.2.2.2.2.trans' k8 (fun i hi => .inr (by omega))⟩
          clear hret k8 he
          go_wp2_with fail
          exact set_ret _ _ w.heap.size ad A.1.length cap B.1 HRet.out rfl rfl rfl ⟨ad, cap, rfl, HO8.out, HR8.out⟩
        · have b1 : ((rFail B.2 3).2 == 0) = false := beq_eq_false_iff_ne.2 he
          have b2 : ((rFail B.2 3).2 != 0) = true := by rw [bne, b1]; rfl
          obtain rfl : q = (([], 0), (rFail B.2 3)) := by rw [HP.out, if_neg he]
          have o0 := cell_of_blk H7.out.2.2.1 0 (v := .slice none 0 0) rfl
          have o1 := cell_of_blk H7.out.2.2.1 1 (v := .int .i64 0) rfl
          have fo0 := free_of_blk H7.out.2.2.1 0
          have fo1 := free_of_blk H7.out.2.2.1 1
          have k8 : Kp (fun k => k = w.heap.size) w7 ((w7.setCell ⟨w.heap.size, 0, none⟩ (.slice none 0 0)).setCell ⟨w.heap.size, 1, none⟩ (.int .i64 0)) := ((Kp.refl (fun k => k = w.heap.size) w7).setCell (p := ⟨w.heap.size, 0, none⟩) (.inl rfl) _).setCell (p := ⟨w.heap.size, 1, none⟩) (.inl rfl) _
          have hret : ((w7.setCell ⟨w.heap.size, 0, none⟩ (.slice none 0 0)).setCell ⟨w.heap.size, 1, none⟩ (.int .i64 0)).heap[w.heap.size]? = some (.cells #[.slice none 0 0, .int .i64 0] 24 (0, 0)) := blk_set (blk_set H7.out.2.2.1 _) _
          have HRet := Lib.hid hret
          have HR8 : Hid (RdP 136 b (rFail B.2 3) w _) := Lib.hid ⟨blk_kp H7.out.2.2.2.1 k8 (by omega), H7.out.2.2.2.2.trans' k8 (fun i hi => .inr (by omega))⟩
          clear hret k8 he
          go_wp2_with fail
          exact set_ret _ _ w.heap.size none 0 0 0 HRet.out rfl rfl rfl ⟨none, 0, rfl, ownL_nil _ _, HR8.out⟩

/-! ### a root's document, zeroed -/
theorem DocK.set {b : Nat} {d d' : DV} {w0 w : World} (h : DocK b d w0 w) (i : Nat) (v : Value) (hd : (docC d).setIfInBounds i v = docC d') : DocK b d' w0 (w.setCell ⟨b, i, none⟩ v) := by
  refine ⟨?_, h.2.setCell (p := ⟨b, i, none⟩) (.inl rfl) _⟩
  unfold DocAt
  rw [← hd]
  exact blk_set h.1 v
def d1Z (d : DV) : DV := { d with s0 := sz, s1 := sz, s2 := sz, s3 := sz, s4 := sz, log := ⟨#[]⟩, org := ⟨#[]⟩ }
set_option maxRecDepth 100000 in
set_option maxHeartbeats 4000000 in
theorem zero1_any (b : Nat) (d : DV) (w : World) (h : DocAt w b d) : Calls Tryz.prog 95 #[.pointer (some ⟨b, 0, none⟩)] w fun e w' => e = .returned (.tuple #[]) ∧ DocK b (d1Z d) w w' := by
  obtain ⟨kd, ve, ex, ⟨a0, n0, c0, m0⟩, ⟨a1, n1, c1, m1⟩, ⟨a2, n2, c2, m2⟩, ⟨a3, n3, c3, m3⟩, ⟨a4, n4, c4, m4⟩, lg, og, la, ln, lc, po, ps, pr, of, hs⟩ := d
  have x3 := cell_of_blk h 3 (v := .slice a0 n0 c0) rfl
  have x4 := cell_of_blk h 4 (v := .int .i64 m0) rfl
  have x5 := cell_of_blk h 5 (v := .slice a1 n1 c1) rfl
  have x6 := cell_of_blk h 6 (v := .int .i64 m1) rfl
  have x7 := cell_of_blk h 7 (v := .slice a2 n2 c2) rfl
  have x8 := cell_of_blk h 8 (v := .int .i64 m2) rfl
  have x9 := cell_of_blk h 9 (v := .slice a3 n3 c3) rfl
  have x10 := cell_of_blk h 10 (v := .int .i64 m3) rfl
  have x11 := cell_of_blk h 11 (v := .slice a4 n4 c4) rfl
  have x12 := cell_of_blk h 12 (v := .int .i64 m4) rfl
  have x13 := cell_of_blk h 13 (v := .string lg) rfl
  have x14 := cell_of_blk h 14 (v := .string og) rfl
  have f3 := free_of_blk h 3
  have f4 := free_of_blk h 4
  have f5 := free_of_blk h 5
  have f6 := free_of_blk h 6
  have f7 := free_of_blk h 7
  have f8 := free_of_blk h 8
  have f9 := free_of_blk h 9
  have f10 := free_of_blk h 10
  have f11 := free_of_blk h 11
  have f12 := free_of_blk h 12
  have f13 := free_of_blk h 13
  have f14 := free_of_blk h 14
  have k0 : DocK b ⟨kd, ve, ex, ⟨a0, n0, c0, m0⟩, ⟨a1, n1, c1, m1⟩, ⟨a2, n2, c2, m2⟩, ⟨a3, n3, c3, m3⟩, ⟨a4, n4, c4, m4⟩, lg, og, la, ln, lc, po, ps, pr, of, hs⟩ w w := ⟨h, Kp.refl _ _⟩
  have k1 := k0.set 3 (.slice none 0 0) (d' := ⟨kd, ve, ex, ⟨none, 0, 0, m0⟩, ⟨a1, n1, c1, m1⟩, ⟨a2, n2, c2, m2⟩, ⟨a3, n3, c3, m3⟩, ⟨a4, n4, c4, m4⟩, lg, og, la, ln, lc, po, ps, pr, of, hs⟩) rfl
  have k2 := k1.set 4 (.int .i64 0) (d' := ⟨kd, ve, ex, ⟨none, 0, 0, 0⟩, ⟨a1, n1, c1, m1⟩, ⟨a2, n2, c2, m2⟩, ⟨a3, n3, c3, m3⟩, ⟨a4, n4, c4, m4⟩, lg, og, la, ln, lc, po, ps, pr, of, hs⟩) rfl
  have k3 := k2.set 5 (.slice none 0 0) (d' := ⟨kd, ve, ex, ⟨none, 0, 0, 0⟩, ⟨none, 0, 0, m1⟩, ⟨a2, n2, c2, m2⟩, ⟨a3, n3, c3, m3⟩, ⟨a4, n4, c4, m4⟩, lg, og, la, ln, lc, po, ps, pr, of, hs⟩) rfl
  have k4 := k3.set 6 (.int .i64 0) (d' := ⟨kd, ve, ex, ⟨none, 0, 0, 0⟩, ⟨none, 0, 0, 0⟩, ⟨a2, n2, c2, m2⟩, ⟨a3, n3, c3, m3⟩, ⟨a4, n4, c4, m4⟩, lg, og, la, ln, lc, po, ps, pr, of, hs⟩) rfl
  have k5 := k4.set 7 (.slice none 0 0) (d' := ⟨kd, ve, ex, ⟨none, 0, 0, 0⟩, ⟨none, 0, 0, 0⟩, ⟨none, 0, 0, m2⟩, ⟨a3, n3, c3, m3⟩, ⟨a4, n4, c4, m4⟩, lg, og, la, ln, lc, po, ps, pr, of, hs⟩) rfl
  have k6 := k5.set 8 (.int .i64 0) (d' := ⟨kd, ve, ex, ⟨none, 0, 0, 0⟩, ⟨none, 0, 0, 0⟩, ⟨none, 0, 0, 0⟩, ⟨a3, n3, c3, m3⟩, ⟨a4, n4, c4, m4⟩, lg, og, la, ln, lc, po, ps, pr, of, hs⟩) rfl
  have k7 := k6.set 9 (.slice none 0 0) (d' := ⟨kd, ve, ex, ⟨none, 0, 0, 0⟩, ⟨none, 0, 0, 0⟩, ⟨none, 0, 0, 0⟩, ⟨none, 0, 0, m3⟩, ⟨a4, n4, c4, m4⟩, lg, og, la, ln, lc, po, ps, pr, of, hs⟩) rfl
  have k8 := k7.set 10 (.int .i64 0) (d' := ⟨kd, ve, ex, ⟨none, 0, 0, 0⟩, ⟨none, 0, 0, 0⟩, ⟨none, 0, 0, 0⟩, ⟨none, 0, 0, 0⟩, ⟨a4, n4, c4, m4⟩, lg, og, la, ln, lc, po, ps, pr, of, hs⟩) rfl
  have k9 := k8.set 11 (.slice none 0 0) (d' := ⟨kd, ve, ex, ⟨none, 0, 0, 0⟩, ⟨none, 0, 0, 0⟩, ⟨none, 0, 0, 0⟩, ⟨none, 0, 0, 0⟩, ⟨none, 0, 0, m4⟩, lg, og, la, ln, lc, po, ps, pr, of, hs⟩) rfl
  have k10 := k9.set 12 (.int .i64 0) (d' := ⟨kd, ve, ex, ⟨none, 0, 0, 0⟩, ⟨none, 0, 0, 0⟩, ⟨none, 0, 0, 0⟩, ⟨none, 0, 0, 0⟩, ⟨none, 0, 0, 0⟩, lg, og, la, ln, lc, po, ps, pr, of, hs⟩) rfl
  have k11 := k10.set 13 (.string ⟨#[]⟩) (d' := ⟨kd, ve, ex, ⟨none, 0, 0, 0⟩, ⟨none, 0, 0, 0⟩, ⟨none, 0, 0, 0⟩, ⟨none, 0, 0, 0⟩, ⟨none, 0, 0, 0⟩, ⟨#[]⟩, og, la, ln, lc, po, ps, pr, of, hs⟩) rfl
  have k12 := k11.set 14 (.string ⟨#[]⟩) (d' := ⟨kd, ve, ex, ⟨none, 0, 0, 0⟩, ⟨none, 0, 0, 0⟩, ⟨none, 0, 0, 0⟩, ⟨none, 0, 0, 0⟩, ⟨none, 0, 0, 0⟩, ⟨#[]⟩, ⟨#[]⟩, la, ln, lc, po, ps, pr, of, hs⟩) rfl
  have HK := Lib.hid k12
  clear k0 k1 k2 k3 k4 k5 k6 k7 k8 k9 k10 k11 k12 h
  go_enter Tryz.func95, Tryz.ntmps95
  go_wp2_with fail
  go_end0
  exact ⟨rfl, HK.out⟩

/-! ### a root's document, laid -/
theorem WG.add {T : TypeId} {B : Nat} {w0 w : World} {b : Nat} {L : List (Nat × Array Value × TypeId)} {q : WS} (H : WG T B w0 w b L q) (x : Nat × Array Value × TypeId) (h1 : w.heap[x.1]? = some (.cells x.2.1 x.2.2 (0, 0))) (h2 : x.2.2 ≠ 5) (h3 : x.1 ≠ b) : WG T B w0 w b (x :: L) q := by
  refine ⟨H.ex, fun y hy => ?_, H.below, H.hb⟩
  rcases List.mem_cons.1 hy with rfl | hy
  · exact ⟨h1, h2, h3⟩
  · exact H.par y hy
theorem laySetP_size (S : SetT) (q : WS) : (laySetP S q).1.size ≤ q.1.size + txZ S.1 + 2 := by
  unfold laySetP
  split
  · have h1 := wNum_size (S.1.foldl pHash (wNum q S.1.length 1)) S.2 1
    have h2 := foldH_size S.1 (wNum q S.1.length 1)
    have h3 := wNum_size q S.1.length 1
    omega
  · have h1 := wNum_size q (-1) 1
    omega
def layF (q : WS) (S : SetT) : WS := laySetP S q
def lay1 (d : DV) (SL : List SetT) (q : WS) : WS := pText (pHash (SL.foldl layF q) d.log) d.org
theorem foldS_size : ∀ (L : List SetT) (q : WS), (∀ S ∈ L, txZ S.1 ≤ 100000000) → (L.foldl layF q).1.size ≤ q.1.size + 100000002 * L.length
  | [], q, h => Nat.le_refl _
  | x :: r, q, h => by
    have h1 := foldS_size r (layF q x) (fun S hS => h S (List.mem_cons_of_mem _ hS))
    have h2 : (layF q x).1.size ≤ _ := laySetP_size x q
    have h3 := h x List.mem_cons_self
    rw [List.length_cons]
    show (r.foldl layF (layF q x)).1.size ≤ _
    omega
def LrtRel (w0 : World) (wb : Nat) (Lp : List (Nat × Array Value × TypeId)) (q : WS) (SL : List SetT) (i : Value) (wr : World) : Prop := ∃ k : Nat, k ≤ 5 ∧ i = .int .i64 k ∧ WG 75 w0.heap.size w0 wr wb Lp ((SL.take k).foldl layF q)

set_option maxRecDepth 100000 in
set_option maxHeartbeats 4000000 in
theorem layrt_any (d : DV) (SL : List SetT) (w0 : World) (hS : SetsM w0 d SL) (hz : ∀ S ∈ SL, S.1.length ≤ 100000000 ∧ txZ S.1 ≤ 100000000 ∧ I64 S.2) (hl : d.log.size ≤ 1000000000) (ho : d.org.size ≤ 1000000000) : LayC 93 d (lay1 d SL) w0 := by
  intro W wb q db Lp hm hq hG
  have hd : DocAt W db d := (hG.par _ hm).1
  have hlt : db < W.heap.size := (Array.getElem?_eq_some_iff.1 hd).1
  obtain ⟨v0, hv0⟩ := hG.ex
  have hwb : wb < W.heap.size := hv0.lt
  have HS := Lib.hid hS
  have HZ := Lib.hid hz
  have HM := Lib.hid hm
  have HG := Lib.hid hG
  have e0 : lay1 d SL q = pText (pHash (SL.foldl layF q) d.log) d.org := rfl
  rw [e0]
  obtain ⟨R, hRR⟩ : ∃ R, R = pText (pHash (SL.foldl layF q) d.log) d.org := ⟨_, rfl⟩
  rw [← hRR]
  have HRR := Lib.hid hRR
  clear hG hv0 hd hS hz hm e0 hRR
  go_enter Tryz.func93, Tryz.ntmps93
  go_wp2_with fail
  refine (sets_any db W hlt).mono ?_
  rintro e w1 ⟨qb, rfl, hqb, hqa, hb1⟩
  have hg1 := (HG.out.later hb1).add (qb, setPs db, 134) hqa (show (134 : TypeId) ≠ 5 by decide) (by show qb ≠ wb; omega)
  have HG1 := Lib.hid hg1
  clear hqa hb1 hg1 HG hlt hqb hwb
  go_wp2_with fail
  go_loopw [9] (fun i wr => LrtRel w0 wb ((qb, setPs db, 134) :: Lp) q SL i wr) (fun i _ => 5 - (intOf i).toNat)
  case atStart => exact ⟨0, Nat.zero_le _, rfl, HG1.out⟩
  case round =>
    clear HG1
    obtain ⟨k, hk, rfl, hG⟩ := hrel
    have HG := Lib.hid hG
    obtain ⟨v4, hv4⟩ := hG.ex
    have HV4 := Lib.hid hv4
    have hdr : DocAt wr db d := (hG.par _ (List.mem_cons_of_mem _ HM.out)).1
    have hqr := (hG.par _ List.mem_cons_self).1
    have HDr := Lib.hid hdr
    by_cases hlt : k < 5
    case pos =>
      have hl5 : k < SL.length := by rw [HS.out.1]; exact hlt
      obtain ⟨s, hs, c1, c2⟩ := setL_at d db wr hdr k hlt
      have c0 := setPs_at db qb wr hqr k hlt
      obtain ⟨hsm, hsl⟩ := HS.out.2 k s SL[k] hs (List.getElem?_eq_getElem hl5)
      obtain ⟨z1, z2, z3⟩ := HZ.out SL[k] (List.getElem_mem hl5)
      have htk : (SL.take (k + 1)).foldl layF q = laySetP SL[k] ((SL.take k).foldl layF q) := by rw [List.take_succ_eq_append_getElem hl5, List.foldl_append]; rfl
      have hfs := foldS_size (SL.take k) q (fun S hS => (HZ.out S (List.mem_of_mem_take hS)).2.1)
      have htl : (SL.take k).length ≤ 5 := by rw [List.length_take]; omega
      generalize SL[k] = S at hsm hsl z1 z2 z3 htk
      generalize (SL.take k).foldl layF q = cur at HG HV4 htk hfs hG hv4
      have HTk := Lib.hid htk
      have HC := Lib.hid (qlay_any w0 wb ((qb, setPs db, 134) :: Lp) cur s S wr hsm (by omega) (by omega) (by omega) z3 hG)
      have hk0 : (0 : Int) ≤ (k : Int) := Int.natCast_nonneg _
      have hk1 : (k : Int) < 5 := by omega
      clear hG hv4 hdr hqr hs hsm hsl z1 z2 z3 htk hfs htl
      go_wp2_with fail
      refine HC.out.mono ?_
      rintro e w5 ⟨rfl, hg5⟩
      have HG5 := Lib.hid hg5
      clear hg5
      go_wp2_with fail
      have hG5 := HG5.out
      rw [← HTk.out] at hG5
      refine ⟨⟨k + 1, hlt, rfl, hG5⟩, ?_⟩
      show 5 - ((k : Int) + 1).toNat < 5 - (k : Int).toNat
      omega
    case neg =>
      obtain rfl : k = 5 := by omega
      have hfin : SL.take 5 = SL := List.take_of_length_le (by rw [HS.out.1]; exact Nat.le_refl _)
      have hfs := foldS_size SL q (fun S hS => (HZ.out S hS).2.1)
      have h5 := HS.out.1
      rw [h5] at hfs
      clear h5
      rw [hfin] at HG HV4
      clear hG hv4 hqr hfin
      generalize SL.foldl layF q = cur at HG HV4 hfs HRR
      have c13 := cell_of_blk hdr 13 (v := .string d.log) rfl
      clear hdr
      go_wp2_with fail
      refine (phash_any _ wb v4 cur d.log wr (by omega) HV4.out).mono ?_
      rintro e w5 ⟨rfl, hk5⟩
      have hsz : (pHash cur d.log).1.size = cur.1.size + d.log.size := pHash_size _ _
      have hg5 := HG.out.step HV4.out hk5
      have HG5 := Lib.hid hg5
      obtain ⟨v5, hv5⟩ := hg5.ex
      have HV5 := Lib.hid hv5
      have hd5 : DocAt w5 db d := (hg5.par _ (List.mem_cons_of_mem _ HM.out)).1
      have c14 := cell_of_blk hd5 14 (v := .string d.org) rfl
      clear hk5 hg5 hv5 hd5 c13 HG HV4
      generalize pHash cur d.log = q2 at hsz HG5 HV5 HRR
      go_wp2_with fail
      refine (ptext_any _ wb v5 q2 d.org w5 (by omega) HV5.out).mono ?_
      rintro e w6 ⟨rfl, hk6⟩
      have HG6 := Lib.hid (HG5.out.step HV5.out hk6).pop
      clear hk6
      go_wp2_with fail
      go_end0
      exact ⟨rfl, HRR.out ▸ HG6.out⟩

/-! ### a root's document, taken -/
def setF (d : DV) (f : Nat → SV) : DV := { d with s0 := f 0, s1 := f 1, s2 := f 2, s3 := f 3, s4 := f 4 }
def upF (f : Nat → SV) (k : Nat) (s : SV) : Nat → SV := fun j => if j = k then s else f j
theorem setF_set {W : World} {b : Nat} {d : DV} {f : Nat → SV} (h : DocAt W b (setF d f)) (k : Nat) (hk : k < 5) (s : SV) :
    DocAt ((W.setCell ⟨b, 3 + 2 * k, none⟩ (.slice s.ad s.n s.c)).setCell ⟨b, 3 + 2 * k + 1, none⟩ (.int .i64 s.need)) b (setF d (upF f k s)) := by
  have h0 : DocK b (setF d f) W W := ⟨h, Kp.refl _ _⟩
  match k, hk with
  | 0, _ =>
    have h1 := h0.set 3 (.slice s.ad s.n s.c) (d' := { d with s0 := ⟨s.ad, s.n, s.c, (f 0).need⟩, s1 := f 1, s2 := f 2, s3 := f 3, s4 := f 4 }) rfl
    exact (h1.set 4 (.int .i64 s.need) (d' := setF d (upF f 0 s)) rfl).1
  | 1, _ =>
    have h1 := h0.set 5 (.slice s.ad s.n s.c) (d' := { d with s0 := f 0, s1 := ⟨s.ad, s.n, s.c, (f 1).need⟩, s2 := f 2, s3 := f 3, s4 := f 4 }) rfl
    exact (h1.set 6 (.int .i64 s.need) (d' := setF d (upF f 1 s)) rfl).1
  | 2, _ =>
    have h1 := h0.set 7 (.slice s.ad s.n s.c) (d' := { d with s0 := f 0, s1 := f 1, s2 := ⟨s.ad, s.n, s.c, (f 2).need⟩, s3 := f 3, s4 := f 4 }) rfl
    exact (h1.set 8 (.int .i64 s.need) (d' := setF d (upF f 2 s)) rfl).1
  | 3, _ =>
    have h1 := h0.set 9 (.slice s.ad s.n s.c) (d' := { d with s0 := f 0, s1 := f 1, s2 := f 2, s3 := ⟨s.ad, s.n, s.c, (f 3).need⟩, s4 := f 4 }) rfl
    exact (h1.set 10 (.int .i64 s.need) (d' := setF d (upF f 3 s)) rfl).1
  | 4, _ =>
    have h1 := h0.set 11 (.slice s.ad s.n s.c) (d' := { d with s0 := f 0, s1 := f 1, s2 := f 2, s3 := f 3, s4 := ⟨s.ad, s.n, s.c, (f 4).need⟩ }) rfl
    exact (h1.set 12 (.int .i64 s.need) (d' := setF d (upF f 4 s)) rfl).1
def svs (d : DV) : Nat → SV | 0 => d.s0 | 1 => d.s1 | 2 => d.s2 | 3 => d.s3 | _ => d.s4
theorem setF_id (d : DV) : setF d (svs d) = d := rfl
def takeRN (r : RS) : Nat → List SetT × RS
  | 0 => ([], r)
  | k + 1 => ((takeRN r k).1 ++ [(takeSetP (takeRN r k).2).1], (takeSetP (takeRN r k).2).2)
theorem takeSetP_size (r : RS) : (takeSetP r).2.1.size ≤ r.1.size := (tsF_size r).2.2
theorem takeRN_size (r : RS) : ∀ k, (takeRN r k).2.1.size ≤ r.1.size
  | 0 => Nat.le_refl _
  | k + 1 => Nat.le_trans (takeSetP_size _) (takeRN_size r k)
theorem takeRN_len (r : RS) : ∀ k, (takeRN r k).1.length = k
  | 0 => rfl
  | k + 1 => by show ((takeRN r k).1 ++ [_]).length = k + 1; rw [List.length_append, takeRN_len r k]; rfl
def rt2 (r : RS) : ByteArray × RS := rRaw (takeRN r 5).2 32
def rt3 (r : RS) : ByteArray × RS := rTxt (rt2 r).2 64
/-- the sets that stand, as owned. -/
def OwnF (w : World) (base : Nat) (f : Nat → SV) (L : List SetT) : Prop := ∀ j S, L[j]? = some S → (f j).n = S.1.length ∧ (f j).need = S.2 ∧ OwnS w base (.slice (f j).ad (f j).n (f j).c) S.1
theorem OwnF.kp {Sx : Nat → Prop} {w w' : World} {base : Nat} {f : Nat → SV} {L : List SetT} (h : OwnF w base f L) (k : Kp Sx w w') (hS : ∀ g, base ≤ g → ¬ Sx g) : OwnF w' base f L :=
  fun j S hj => ⟨(h j S hj).1, (h j S hj).2.1, OwnL.kp (h j S hj).2.2 k (fun g hg => hS g (OwnL.lt (h j S hj).2.2 g hg).1)⟩
theorem OwnF.base {w : World} {base base' : Nat} {f : Nat → SV} {L : List SetT} (h : OwnF w base f L) (hb : base' ≤ base) : OwnF w base' f L :=
  fun j S hj => ⟨(h j S hj).1, (h j S hj).2.1, OwnL.base (h j S hj).2.2 (fun g hg => Nat.le_trans hb (OwnL.lt (h j S hj).2.2 g hg).1)⟩
theorem OwnF.up {w : World} {base : Nat} {f : Nat → SV} {L : List SetT} (h : OwnF w base f L) (s : SV) (S : SetT) (h1 : s.n = S.1.length) (h2 : s.need = S.2) (h3 : OwnS w base (.slice s.ad s.n s.c) S.1) : OwnF w base (upF f L.length s) (L ++ [S]) := by
  intro j T hj
  unfold upF
  by_cases e : j = L.length
  · subst e
    rw [List.getElem?_append_right (Nat.le_refl _), Nat.sub_self] at hj
    obtain rfl : S = T := by simpa using hj
    rw [if_pos rfl]
    exact ⟨h1, h2, h3⟩
  · rw [if_neg e]
    have hlt : j < L.length := by
      have := (List.getElem?_eq_some_iff.1 hj).1
      rw [List.length_append] at this
      simp at this
      omega
    rw [List.getElem?_append_left hlt] at hj
    exact h j T hj
structure RtS (W : World) (db rb qb : Nat) (d0 : DV) (L : List SetT) (r : RS) (wr : World) : Prop where
  ex : ∃ f, DocAt wr db (setF d0 f) ∧ OwnF wr W.heap.size f L
  rd : Rdr 136 wr rb r
  qs : wr.heap[qb]? = some (.cells (setPs db) 134 (0, 0))
  kp : Kp (fun k => k = db ∨ k = rb) W wr
def RtRel (W : World) (db rb qb : Nat) (d0 : DV) (r : RS) (i : Value) (wr : World) : Prop := ∃ k : Nat, k ≤ 5 ∧ i = .int .i64 k ∧ RtS W db rb qb d0 (takeRN r k).1 (takeRN r k).2 wr

set_option maxRecDepth 100000 in
set_option maxHeartbeats 1000000 in
theorem takert_any (d0 : DV) (r3 : RS) (w : World) (hs : r3.1.size ≤ 1000000000) :
    TakeC 94 d0 r3 (rt3 r3).2 (fun d W => ∃ f, d = { setF d0 f with log := (rt2 r3).1, org := (rt3 r3).1 } ∧ OwnF W (w.heap.size + 2) f (takeRN r3 5).1) w := by
  intro W db rb hB hd hr h1 h2
  have hdb : db < W.heap.size := (Array.getElem?_eq_some_iff.1 hd).1
  have e2 : rRaw (takeRN r3 5).2 32 = rt2 r3 := rfl
  have e3 : rTxt (rt2 r3).2 64 = rt3 r3 := rfl
  have hz5 := takeRN_size r3 5
  have hz2 : (rt2 r3).2.1.size ≤ (takeRN r3 5).2.1.size := by unfold rt2; exact (rRaw_size _ 32).2
  obtain ⟨A, hA⟩ : ∃ A, A = takeRN r3 5 := ⟨_, rfl⟩
  rw [← hA] at hz5 hz2 e2 ⊢
  have HA := Lib.hid hA
  have E2 := Lib.hid e2
  have E3 := Lib.hid e3
  clear hA
  generalize rt3 r3 = C at *
  generalize rt2 r3 = B at *
  have HD := Lib.hid hd
  have HR := Lib.hid hr
  clear hd hr hB e2 e3
  go_enter Tryz.func94, Tryz.ntmps94
  go_wp2_with fail
  refine (sets_any db W hdb).mono ?_
  rintro e w1 ⟨qb, rfl, hqb, hqa, hb1⟩
  have hI0 : RtS W db rb qb d0 [] r3 w1 := ⟨⟨svs d0, by rw [setF_id]; exact HD.out.later hb1, fun j S h => by simp at h⟩, blk_later HR.out hb1, hqa, Kp.of_below hb1⟩
  have HI0 := Lib.hid hI0
  clear hqa hb1 hI0 HD HR
  go_wp2_with fail
  go_loopw [9] (fun i wr => RtRel W db rb qb d0 r3 i wr) (fun i _ => 5 - (intOf i).toNat)
  case atStart => exact ⟨0, Nat.zero_le _, rfl, HI0.out⟩
  case round =>
    clear HI0
    obtain ⟨k, hk, rfl, hI⟩ := hrel
    have HI := Lib.hid hI
    obtain ⟨f, hdf, hof⟩ := hI.ex
    have HDf := Lib.hid hdf
    have HOf := Lib.hid hof
    by_cases hlt : k < 5
    case pos =>
      obtain ⟨s, hs, c1, c2⟩ := setL_at (setF d0 f) db wr hdf k hlt
      have c0 := setPs_at db qb wr hI.qs k hlt
      have hsz := takeRN_size r3 k
      have hln := takeRN_len r3 k
      have ht1 : (takeRN r3 (k + 1)).1 = (takeRN r3 k).1 ++ [(takeSetP (takeRN r3 k).2).1] := rfl
      have ht2 : (takeRN r3 (k + 1)).2 = (takeSetP (takeRN r3 k).2).2 := rfl
      have HT1 := Lib.hid ht1
      have HT2 := Lib.hid ht2
      generalize (takeRN r3 k).2 = ra at HI HT1 HT2 hsz hI
      generalize (takeRN r3 k).1 = L at HI HT1 hln hI HOf hof
      have HC := taketq_any rb ra wr (by omega) hI.rd
      unfold TqPost at HC
      generalize takeSetP ra = q at HC HT1 HT2
      have HCs := Lib.hid HC
      have f1 := free_of_blk hdf (3 + 2 * k)
      have f2 := free_of_blk hdf (3 + 2 * k + 1)
      have hk0 : (0 : Int) ≤ (k : Int) := Int.natCast_nonneg _
      have hk1 : (k : Int) < 5 := by omega
      have hlw : W.heap.size ≤ wr.heap.size := hI.kp.size
      have hqlt : qb < wr.heap.size := (Array.getElem?_eq_some_iff.1 hI.qs).1
      clear hs hI hdf hof c1 c2 f1 f2 ht1 ht2 HC
      go_wp2_with fail
      refine HCs.out.mono ?_
      rintro e w2 ⟨ad, cp, rfl, how, hk2⟩
      have hne : ¬ db = rb := by omega
      have hd2 := blk_kp HDf.out hk2.2 hne
      have ho2 : OwnF w2 W.heap.size f L := HOf.out.kp hk2.2 (fun g hg => by omega)
      have hq2 := blk_kp HI.out.qs hk2.2 (by omega)
      have hkk : Kp (fun k => k = db ∨ k = rb) W w2 := HI.out.kp.trans (hk2.2.mono (fun i hi => .inr hi))
      have how2 : OwnS w2 W.heap.size (.slice ad q.1.1.length cp) q.1.1 := OwnL.base how (fun g hg => Nat.le_trans hlw (OwnL.lt how g hg).1)
      obtain ⟨s, hs, c1, c2⟩ := setL_at (setF d0 f) db w2 hd2 k hlt
      have f1 := free_of_blk hd2 (3 + 2 * k)
      have f2 := free_of_blk hd2 (3 + 2 * k + 1)
      have hd3 := setF_set hd2 k hlt ⟨ad, q.1.1.length, cp, q.1.2⟩
      have kp3 : Kp (fun k => k = db) w2 ((w2.setCell ⟨db, 3 + 2 * k, none⟩ (.slice ad q.1.1.length cp)).setCell ⟨db, 3 + 2 * k + 1, none⟩ (.int .i64 q.1.2)) := ((Kp.refl (fun k => k = db) w2).setCell (p := ⟨db, 3 + 2 * k, none⟩) (.inl rfl) _).setCell (p := ⟨db, 3 + 2 * k + 1, none⟩) (.inl rfl) _
      have hI3 : RtS W db rb qb d0 (L ++ [q.1]) q.2 ((w2.setCell ⟨db, 3 + 2 * k, none⟩ (.slice ad q.1.1.length cp)).setCell ⟨db, 3 + 2 * k + 1, none⟩ (.int .i64 q.1.2)) := by
        refine ⟨⟨upF f L.length ⟨ad, q.1.1.length, cp, q.1.2⟩, ?_, ?_⟩, ?_, ?_, ?_⟩
        · rw [hln]; exact hd3
        · exact ((ho2.kp kp3 (fun g hg => by omega)).up ⟨ad, q.1.1.length, cp, q.1.2⟩ q.1 rfl rfl (OwnL.kp how2 kp3 (fun g hg => by have := (OwnL.lt how2 g hg).1; omega)))
        · exact blk_kp hk2.1 kp3 (by omega)
        · exact blk_kp hq2 kp3 (by omega)
        · exact hkk.trans (kp3.mono (fun i hi => .inl hi))
      have HI3 := Lib.hid hI3
      clear hk2 hd2 ho2 hq2 hkk how how2 hs hd3 kp3 hI3 HI HDf HOf HCs
      go_wp2_with fail
      have hI4 := HI3.out
      rw [← HT1.out, ← HT2.out] at hI4
      refine ⟨⟨k + 1, hlt, rfl, hI4⟩, ?_⟩
      show 5 - ((k : Int) + 1).toNat < 5 - (k : Int).toNat
      omega
    case neg =>
      obtain rfl : k = 5 := by omega
      rw [← HA.out] at hI
      clear HI
      have HI := Lib.hid hI
      clear hI hdf hof HDf HOf
      have c2 := rhash_any rb A.2 wr (by omega) HI.out.rd
      rw [E2.out] at c2
      have HC2 := Lib.hid c2
      clear c2
      go_wp2_with fail
      refine HC2.out.mono ?_
      rintro e w2 ⟨rfl, k2⟩
      have c3 := rtxt_any rb B.2 64 w2 (by decide) (by omega) k2.1
      rw [E3.out] at c3
      have HC3 := Lib.hid c3
      have HK2 := Lib.hid k2
      clear c3 k2 HC2
      go_wp2_with fail
      refine HC3.out.mono ?_
      rintro e w3 ⟨rfl, k3⟩
      have hne : ¬ db = rb := by omega
      obtain ⟨f, hdf, hof⟩ := HI.out.ex
      have hd3 := blk_kp (blk_kp hdf HK2.out.2 hne) k3.2 hne
      have ho3 : OwnF w3 W.heap.size f A.1 := (hof.kp HK2.out.2 (fun g hg => by omega)).kp k3.2 (fun g hg => by omega)
      have hk3 : Kp (fun k => k = db ∨ k = rb) W w3 := (HI.out.kp.trans (HK2.out.2.mono (fun i hi => .inr hi))).trans (k3.2.mono (fun i hi => .inr hi))
      have c13 := cell_of_blk hd3 13 (v := .string d0.log) rfl
      have c14 := cell_of_blk hd3 14 (v := .string d0.org) rfl
      have f13 := free_of_blk hd3 13
      have f14 := free_of_blk hd3 14
      have kp4 : Kp (fun k => k = db) w3 ((w3.setCell ⟨db, 13, none⟩ (.string B.1)).setCell ⟨db, 14, none⟩ (.string C.1)) := ((Kp.refl (fun k => k = db) w3).setCell (p := ⟨db, 13, none⟩) (.inl rfl) _).setCell (p := ⟨db, 14, none⟩) (.inl rfl) _
      have hd4 : DocAt ((w3.setCell ⟨db, 13, none⟩ (.string B.1)).setCell ⟨db, 14, none⟩ (.string C.1)) db { setF d0 f with log := B.1, org := C.1 } := ((DocK.set ⟨hd3, Kp.refl _ _⟩ 13 (.string B.1) (d' := { setF d0 f with log := B.1 }) rfl).set 14 (.string C.1) rfl).1
      have HD4 := Lib.hid hd4
      have HO4 := Lib.hid (ho3.kp kp4 (fun g hg => by omega))
      have HR4 := Lib.hid (blk_kp k3.1 kp4 (by omega))
      have HK4 := Lib.hid (hk3.trans (kp4.mono (fun i hi => .inl hi)))
      clear k3 hdf hof hd3 ho3 hk3 kp4 hd4 HI HK2 HC3
      go_wp2_with fail
      go_end0
      exact ⟨rfl, _, ⟨f, rfl, OwnF.base (base := W.heap.size) HO4.out (by omega)⟩, HD4.out, HR4.out, HK4.out⟩
end Go.Proofs.YtmejjphliaiamaaGreatDoor
