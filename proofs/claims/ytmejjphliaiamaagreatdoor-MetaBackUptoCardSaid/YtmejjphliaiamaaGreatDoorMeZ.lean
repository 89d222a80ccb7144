import Derived.Test.YtmejjphliaiamaaGreatDoorMeY
import Derived.Test.YtmejjphliaiamaaGreatDoorMeV
import Derived.Deep.QuietTactic
import Derived.BigQuiet
import Derived.StillTail
import Derived.Lib.QuietBelow
set_option linter.unusedVariables false
set_option linter.unusedSimpArgs false
namespace Go.Proofs.YtmejjphliaiamaaGreatDoor
open Go Go.RowKit Go.Lib Go.Sort

/-! ### a root's document: zeroed, good -/
theorem enter_rg : Ent 92 := fun args w => by kernel_rfl
theorem enter_rl : Ent 93 := fun args w => by kernel_rfl
theorem enter_rt : Ent 94 := fun args w => by kernel_rfl
theorem enter_rz : Ent 95 := fun args w => by kernel_rfl
theorem enter_r1 : Ent 148 := fun args w => by kernel_rfl
set_option maxRecDepth 100000 in
theorem goodr1_any (b o : Nat) (s : SV) (S : SetT) (w : World) (c0 : w.cell? ⟨b, o, none⟩ = some (.slice s.ad s.n s.c)) (c1 : w.cell? ⟨b, o + 1, none⟩ = some (.int .i64 s.need)) (hS : SetM w s S) (hm : S.1.length ≤ 100000000) :
    Calls Tryz.prog 148 #[.pointer (some ⟨b, o, none⟩)] w fun e w' => e = .returned (.bool (!setGood S)) ∧ Below w.heap.size w w' := by
  have HC := qcheck_any s S w hS hm
  generalize setGood S = g at HC ⊢
  have HCs := Lib.hid HC
  clear HC hS
  cases g with
  | true =>
    have e1 : chkE true = 0 := rfl
    rw [e1] at HCs
    go_enter Tryz.func148, Tryz.ntmps148
    go_wp2_with fail
    refine HCs.out.mono ?_
    rintro e w1 ⟨rfl, hb⟩
    have HB := Lib.hid hb
    clear hb
    go_wp2_with fail
    go_ret
    exact ⟨rfl, HB.out⟩
  | false =>
    have e1 : chkE false = 1 := rfl
    rw [e1] at HCs
    go_enter Tryz.func148, Tryz.ntmps148
    go_wp2_with fail
    refine HCs.out.mono ?_
    rintro e w1 ⟨rfl, hb⟩
    have HB := Lib.hid hb
    clear hb
    go_wp2_with fail
    go_ret
    exact ⟨rfl, HB.out⟩
def SetsM (w : World) (d : DV) (SL : List SetT) : Prop := SL.length = 5 ∧ ∀ (k : Nat) (s : SV) (S : SetT), (setL d)[k]? = some s → SL[k]? = some S → SetM w s S ∧ S.1.length ≤ 100000000
theorem SetsM.below {w w' : World} {d : DV} {SL : List SetT} (h : SetsM w d SL) (k : Below w.heap.size w w') : SetsM w' d SL := ⟨h.1, fun j s S h1 h2 => ⟨(h.2 j s S h1 h2).1.below k, (h.2 j s S h1 h2).2⟩⟩
def PsRel (SL : List SetT) (w : World) (i : Value) (wr : World) : Prop := ∃ k : Nat, k ≤ 5 ∧ i = .int .i64 k ∧ (SL.take k).all setGood = true ∧ Below w.heap.size w wr
set_option maxRecDepth 100000 in
set_option maxHeartbeats 2000000 in
theorem psidx_any (b q : Nat) (d : DV) (SL : List SetT) (w : World) (hd : DocAt w b d) (hq : w.heap[q]? = some (.cells (setPs b) 134 (0, 0))) (hS : SetsM w d SL) :
    Calls Tryz.prog 177 #[.slice (some ⟨q, 0, none⟩) 5 5, .func (.func 148) #[] #[]] w fun e w' => ∃ i : Int, e = .returned (.int .i64 i) ∧ decide (0 ≤ i) = !(SL.all setGood) ∧ Below w.heap.size w w' := by
  have eg := enter_r1
  have HD := Lib.hid hd
  have HQ := Lib.hid hq
  have HS := Lib.hid hS
  clear hd hq hS
  go_enter Tryz.func177, Tryz.ntmps177
  go_wp2_with fail
  go_loopw [8] (fun i wr => PsRel SL w i wr) (fun i _ => 5 - (intOf i).toNat)
  case atStart => exact ⟨0, Nat.zero_le _, rfl, rfl, Below.refl _ _⟩
  case round =>
    obtain ⟨k, hk, rfl, ha, hb⟩ := hrel
    have HA := Lib.hid ha
    have HB := Lib.hid hb
    by_cases hlt : k < 5
    case pos =>
      have hl5 : k < SL.length := by rw [HS.out.1]; exact hlt
      obtain ⟨s, hs, c1, c2⟩ := setL_at d b wr (HD.out.later hb) k hlt
      have c0 := setPs_at b q wr (blk_later HQ.out hb) k hlt
      obtain ⟨hsm, hsl⟩ := (HS.out.below hb).2 k s SL[k] hs (List.getElem?_eq_getElem hl5)
      have HC := goodr1_any b (3 + 2 * k) s SL[k] wr c1 c2 hsm hsl
      have htk : SL.take (k + 1) = SL.take k ++ [SL[k]] := List.take_succ_eq_append_getElem hl5
      have hmem : SL[k] ∈ SL := List.getElem_mem hl5
      generalize SL[k] = S at HC htk hmem
      have hno : setGood S = false → SL.all setGood = false := fun h => by
        rw [Bool.eq_false_iff]
        intro h2
        have := List.all_eq_true.1 h2 S hmem
        rw [h] at this
        cases this
      have hyes : setGood S = true → (SL.take (k + 1)).all setGood = true := fun h => by rw [htk, List.all_append, HA.out]; simp [h]
      have HNo := Lib.hid hno
      have HYes := Lib.hid hyes
      have hk0 : (0 : Int) ≤ (k : Int) := Int.natCast_nonneg _
      have hk1 : (k : Int) < 5 := by omega
      generalize setGood S = g at HC HNo HYes
      have HCs := Lib.hid HC
      clear HC hno hyes htk hmem hsm hsl hs c1 c2 ha hb
      go_wp2_with fail
      refine HCs.out.mono ?_
      rintro e w1 ⟨rfl, hb1⟩
      have HB1 := Lib.hid (HB.out.trans (hb1.mono HB.out.size))
      clear hb1
      cases g with
      | false =>
        have HX := Lib.hid (HNo.out rfl)
        go_wp2_with fail
        go_ret
        refine ⟨_, rfl, ?_, HB1.out⟩
        rw [HX.out, decide_eq_true hk0]
        rfl
      | true =>
        have HX := Lib.hid (HYes.out rfl)
        go_wp2_with fail
        refine ⟨⟨k + 1, hlt, rfl, HX.out, HB1.out⟩, ?_⟩
        show 5 - ((k : Int) + 1).toNat < 5 - (k : Int).toNat
        omega
    case neg =>
      obtain rfl : k = 5 := by omega
      have hall : SL.all setGood = true := by
        have h := HA.out
        rwa [List.take_of_length_le (by rw [HS.out.1]; exact Nat.le_refl _)] at h
      have HX := Lib.hid hall
      clear hall ha hb
      go_wp2_with fail
      go_ret
      refine ⟨_, rfl, ?_, HB.out⟩
      rw [HX.out]
      rfl
set_option maxRecDepth 100000 in
theorem pscon_any (b q : Nat) (d : DV) (SL : List SetT) (w : World) (hd : DocAt w b d) (hq : w.heap[q]? = some (.cells (setPs b) 134 (0, 0))) (hS : SetsM w d SL) :
    Calls Tryz.prog 147 #[.slice (some ⟨q, 0, none⟩) 5 5, .func (.func 148) #[] #[]] w fun e w' => e = .returned (.bool (!(SL.all setGood))) ∧ Below w.heap.size w w' := by
  have HC := Lib.hid (psidx_any b q d SL w hd hq hS)
  clear hd hq hS
  go_enter Tryz.func147, Tryz.ntmps147
  go_wp2_with fail
  refine HC.out.mono ?_
  rintro e w1 ⟨i, rfl, hi, hb⟩
  have HB := Lib.hid hb
  have HI := Lib.hid hi
  clear hb hi HC
  go_wp2_with fail
  go_ret
  rw [← HI.out]
  exact ⟨rfl, HB.out⟩
def rootGood (d : DV) (SL : List SetT) : Bool := decide ((cpV d.org 0 d.log).2 = 0) && SL.all setGood
set_option maxRecDepth 100000 in
set_option maxHeartbeats 2000000 in
theorem goodrt_any (b : Nat) (d : DV) (SL : List SetT) (w : World) (h : DocAt w b d) (hS : SetsM w d SL) (ho : d.org.size ≤ 9223372036854775807) (hr : d.log.size ≤ 9223372036854775807) (hV : VarsP w) : Calls Tryz.prog 92 #[.pointer (some ⟨b, 0, none⟩)] w fun e w' => e = .returned (.bool (rootGood d SL)) ∧ Below w.heap.size w w' := by
  have HT := Lib.hid (fun W (hW : Below w.heap.size w W) => text_anyP d.org 0 d.log W ho hr (hV.below hW))
  have HD := Lib.hid h
  have HS := Lib.hid hS
  have c13 := cell_of_blk h 13 (v := .string d.log) rfl
  have c14 := cell_of_blk h 14 (v := .string d.org) rfl
  obtain ⟨R, hR⟩ : ∃ R, R = rootGood d SL := ⟨_, rfl⟩
  rw [← hR]
  unfold rootGood at hR
  generalize cpV d.org 0 d.log = q at HT hR
  have HR := Lib.hid hR
  have cP : ∀ dd os, Calls Tryz.prog 79 #[.agg #[.string d.org, .int .i64 0, .string d.log]] (grow (redrawn w dd) os) fun e w'' => e = .returned (.tuple #[.string q.1, .int .i64 q.2]) ∧ ∃ p : Regrown, w'' = grow (redrawn w p.d) p.os :=
    fun dd os => Calls.regrown_of (HT.out _ (below_regrown w dd os))
  have c13r := cell_regrown c13
  have c14r := cell_regrown c14
  clear h hS hV hR HT
  go_enter Tryz.func92, Tryz.ntmps92
  go_wp2_with fail
  refine wp_region_quiet_below (by kernel_rfl) (by kernel_rfl) ?_
  repeat quiet_step (with_reducible exact cP _ _)
  refine wpQuiet_nil ?_
  intro w5 hw5
  obtain ⟨⟨dq, osq⟩, hw''⟩ := hw5
  have hb5 : Below w.heap.size w w5 := by rw [hw'']; exact below_regrown w dq osq
  have HB5 := Lib.hid hb5
  have HD5 := Lib.hid (HD.out.later hb5)
  have HS5 := Lib.hid (HS.out.below hb5)
  clear hw'' hb5 c13 c14 c13r c14r cP HD HS
  by_cases h0 : q.2 = 0
  · have b1 : (q.2 == 0) = true := beq_iff_eq.2 h0
    have HR2 : Hid (R = SL.all setGood) := Lib.hid (by rw [HR.out, decide_eq_true h0]; rfl)
    have hlt : b < w5.heap.size := (Array.getElem?_eq_some_iff.1 HD5.out).1
    clear h0
    go_wp2_with fail
    refine (sets_any b w5 hlt).mono ?_
    rintro e w6 ⟨qb, rfl, hq, hqa, hb6⟩
    have HC := pscon_any b qb d SL w6 (HD5.out.later hb6) hqa (HS5.out.below hb6)
    have HB6 := Lib.hid (HB5.out.trans (hb6.mono HB5.out.size))
    generalize SL.all setGood = g at HC HR2
    have HCs := Lib.hid HC
    clear HC hqa hb6 hq
    go_wp2_with fail
    refine HCs.out.mono ?_
    rintro e w7 ⟨rfl, hb7⟩
    have HB7 := Lib.hid (HB6.out.trans (hb7.mono HB6.out.size))
    clear hb7
    go_wp2_with fail
    go_ret
    rw [HR2.out]
    exact ⟨by cases g <;> rfl, HB7.out⟩
  · have b1 : (q.2 == 0) = false := beq_eq_false_iff_ne.2 h0
    have HR2 : Hid (R = false) := Lib.hid (by rw [HR.out, decide_eq_false h0]; rfl)
    clear h0
    go_wp2_with fail
    go_ret
    rw [HR2.out]
    exact ⟨rfl, HB5.out⟩
end Go.Proofs.YtmejjphliaiamaaGreatDoor
