import Derived.Test.YtmejjphliaiamaaGreatDoorMeB
set_option linter.unusedVariables false
set_option linter.unusedSimpArgs false
namespace Go.Proofs.YtmejjphliaiamaaGreatDoor
open Go Go.RowKit Go.Lib

/-! ### has a document nothing but its head -/
theorem setL_at (d : DV) (b : Nat) (w : World) (h : DocAt w b d) (k : Nat) (hk : k < 5) : ∃ s, (setL d)[k]? = some s ∧ w.cell? ⟨b, 3 + 2 * k, none⟩ = some (.slice s.ad s.n s.c) ∧ w.cell? ⟨b, 3 + 2 * k + 1, none⟩ = some (.int .i64 s.need) := by
  match k, hk with
  | 0, _ => exact ⟨d.s0, rfl, cell_of_blk h 3 (v := .slice d.s0.ad d.s0.n d.s0.c) rfl, cell_of_blk h 4 (v := .int .i64 d.s0.need) rfl⟩
  | 1, _ => exact ⟨d.s1, rfl, cell_of_blk h 5 (v := .slice d.s1.ad d.s1.n d.s1.c) rfl, cell_of_blk h 6 (v := .int .i64 d.s1.need) rfl⟩
  | 2, _ => exact ⟨d.s2, rfl, cell_of_blk h 7 (v := .slice d.s2.ad d.s2.n d.s2.c) rfl, cell_of_blk h 8 (v := .int .i64 d.s2.need) rfl⟩
  | 3, _ => exact ⟨d.s3, rfl, cell_of_blk h 9 (v := .slice d.s3.ad d.s3.n d.s3.c) rfl, cell_of_blk h 10 (v := .int .i64 d.s3.need) rfl⟩
  | 4, _ => exact ⟨d.s4, rfl, cell_of_blk h 11 (v := .slice d.s4.ad d.s4.n d.s4.c) rfl, cell_of_blk h 12 (v := .int .i64 d.s4.need) rfl⟩
theorem setPs_at (b q : Nat) (w : World) (h : w.heap[q]? = some (.cells (setPs b) 134 (0, 0))) (k : Nat) (hk : k < 5) : w.cell? ⟨q, k, none⟩ = some (.pointer (some ⟨b, 3 + 2 * k, none⟩)) := by
  match k, hk with
  | 0, _ => exact cell_of_blk h 0 (v := .pointer (some ⟨b, 3, none⟩)) rfl
  | 1, _ => exact cell_of_blk h 1 (v := .pointer (some ⟨b, 5, none⟩)) rfl
  | 2, _ => exact cell_of_blk h 2 (v := .pointer (some ⟨b, 7, none⟩)) rfl
  | 3, _ => exact cell_of_blk h 3 (v := .pointer (some ⟨b, 9, none⟩)) rfl
  | 4, _ => exact cell_of_blk h 4 (v := .pointer (some ⟨b, 11, none⟩)) rfl
def EmRel (d : DV) (w : World) (i : Value) (wr : World) : Prop := ∃ k : Nat, k ≤ 5 ∧ i = .int .i64 k ∧ ((setL d).take k).all zeroS = true ∧ w = wr
theorem setL_len (d : DV) : (setL d).length = 5 := rfl

set_option maxRecDepth 100000 in
set_option maxHeartbeats 4000000 in
theorem empty_any (d : DV) (w : World) : Calls Tryz.prog 40 #[docV d] w fun e w' => e = .returned (.bool (emptyB d)) ∧ Below w.heap.size w w' := by
  have hd : DocAt (w.alloc (.cells (docC d) 30)) w.heap.size d := blk_new _ _
  have hB : Below w.heap.size w (w.alloc (.cells (docC d) 30)) := (Below.refl _ w).alloc (Nat.le_refl _) _
  have hlt : w.heap.size < (w.alloc (.cells (docC d) 30)).heap.size := by rw [size_alloc]; omega
  obtain ⟨w1, hw1⟩ : ∃ w1, w1 = w.alloc (.cells (docC d) 30) := ⟨_, rfl⟩
  rw [← hw1] at hd hB hlt
  have hem : emptyB d = ((setL d).all zeroS && restZ d) := rfl
  unfold docV
  generalize emptyB d = R at hem ⊢
  have HE := Lib.hid hem
  have HD := Lib.hid hd
  have HB := Lib.hid hB
  clear hem hd hB
  go_enter Tryz.func40, Tryz.ntmps40
  go_wp2_with fail
  rw [← hw1]
  clear hw1
  refine (sets_any w.heap.size w1 hlt).mono ?_
  rintro e w2 ⟨q, rfl, hq, hqa, hb2⟩
  have hd2 : DocAt w2 w.heap.size d := blk_later HD.out hb2
  have HD2 := Lib.hid hd2
  have HQ := Lib.hid hqa
  have HB2 := Lib.hid (HB.out.trans (hb2.mono HB.out.size))
  clear hd2 hqa hb2 HD HB
  go_wp2_with fail
  go_loopw [7] (fun i wr => EmRel d w2 i wr) (fun i _ => 5 - (intOf i).toNat)
  case atStart => exact ⟨0, Nat.zero_le _, rfl, rfl, rfl⟩
  case round =>
    obtain ⟨k, hk, rfl, ha, rfl⟩ := hrel
    have HA := Lib.hid ha
    clear ha
    by_cases hlt5 : k < 5
    · obtain ⟨s, hs, c1, c2⟩ := setL_at d w.heap.size w2 HD2.out k hlt5
      have c0 := setPs_at w.heap.size q w2 HQ.out k hlt5
      have hk0 : (0 : Int) ≤ (k : Int) := Int.natCast_nonneg _
      have hk1 : (k : Int) < 5 := by omega
      have HS := Lib.hid hs
      have htk : (setL d).take (k + 1) = (setL d).take k ++ [s] := by
        have h1 : k < (setL d).length := hlt5
        rw [List.take_succ_eq_append_getElem h1]
        rw [List.getElem?_eq_getElem h1] at hs
        rw [Option.some.inj hs]
      have hall : zeroS s = true → ((setL d).take (k + 1)).all zeroS = true := fun h => by rw [htk, List.all_append, HA.out]; simp [h]
      have hno : zeroS s = false → R = false := fun h => by
        rw [HE.out]
        have : (setL d).all zeroS = false := by
          rw [Bool.eq_false_iff]
          intro h2
          have := List.all_eq_true.1 h2 s (List.mem_of_getElem? hs)
          rw [h] at this
          cases this
        rw [this]
        rfl
      have HAll := Lib.hid hall
      have HNo := Lib.hid hno
      clear hs htk hall hno
      by_cases hn : 0 < s.n
      · have hn' : (0 : Int) < (s.n : Int) := by omega
        have hr := Lib.hid (HNo.out (by unfold zeroS; rw [decide_eq_false (show ¬ s.n = 0 by omega)]; rfl))
        go_wp2_with fail
        go_ret
        rw [hr.out]
        exact ⟨rfl, HB2.out⟩
      · have hn' : ¬ (0 : Int) < (s.n : Int) := by omega
        by_cases hz : s.need = 0
        · have e1 : (s.need == 0) = true := beq_iff_eq.2 hz
          have e2 : (s.need != 0) = false := by rw [bne, e1]; rfl
          have hr := Lib.hid (HAll.out (by unfold zeroS; rw [decide_eq_true (show s.n = 0 by omega), decide_eq_true hz]; rfl))
          clear hz
          go_wp2_with fail
          refine ⟨⟨k + 1, hlt5, rfl, hr.out, rfl⟩, ?_⟩
          show 5 - ((k : Int) + 1).toNat < 5 - (k : Int).toNat
          omega
        · have e1 : (s.need == 0) = false := beq_eq_false_iff_ne.2 hz
          have e2 : (s.need != 0) = true := by rw [bne, e1]; rfl
          have hr := Lib.hid (HNo.out (by unfold zeroS; rw [decide_eq_false hz, Bool.and_false]))
          clear hz
          go_wp2_with fail
          go_ret
          rw [hr.out]
          exact ⟨rfl, HB2.out⟩
    · obtain rfl : k = 5 := by omega
      have hall : (setL d).all zeroS = true := HA.out
      have hR : R = restZ d := by rw [HE.out, hall]; rfl
      have HR := Lib.hid hR
      have z13 := cell_of_blk HD2.out 13 (v := .string d.log) rfl
      have z14 := cell_of_blk HD2.out 14 (v := .string d.org) rfl
      have z15 := cell_of_blk HD2.out 15 (v := .slice d.lad d.ln d.lc) rfl
      have z16 := cell_of_blk HD2.out 16 (v := .string d.pO) rfl
      have z17 := cell_of_blk HD2.out 17 (v := .int .i64 d.pS) rfl
      have z18 := cell_of_blk HD2.out 18 (v := .string d.pR) rfl
      have z19 := cell_of_blk HD2.out 19 (v := .int .i64 d.of) rfl
      have z20 := cell_of_blk HD2.out 20 (v := .string d.hash) rfl
      have hpt := fun W => eql_pt W d
      clear hall hR HE HA
      by_cases h1 : d.log = ⟨#[]⟩
      · have gh1 := decide_eq_true h1
        have zh1 : d.log.toList.isEmpty = true := by rw [h1, emp_nil]; rfl
        have yh1 : (d.log.toList == ByteArray.toList ⟨#[]⟩) = true := by rw [h1, emp_nil]; rfl
        have xh1 : d.log.toList = [] := by rw [h1, emp_nil]
        have Gh1 := Lib.hid gh1
        clear gh1 h1
        by_cases h2 : d.org = ⟨#[]⟩
        · have gh2 := decide_eq_true h2
          have zh2 : d.org.toList.isEmpty = true := by rw [h2, emp_nil]; rfl
          have yh2 : (d.org.toList == ByteArray.toList ⟨#[]⟩) = true := by rw [h2, emp_nil]; rfl
          have xh2 : d.org.toList = [] := by rw [h2, emp_nil]
          have Gh2 := Lib.hid gh2
          clear gh2 h2
          by_cases h3 : d.ln = 0
          · have gh3 := decide_eq_true h3
            have zh3 : ((d.ln : Int) == 0) = true := beq_iff_eq.2 (by omega)
            have yh3 : (d.ln : Int) = 0 := by omega
            have Gh3 := Lib.hid gh3
            clear gh3 h3
            by_cases h4 : d.of = 0
            · have gh4 := decide_eq_true h4
              have zh4 : (d.of == 0) = true := beq_iff_eq.2 h4
              have Gh4 := Lib.hid gh4
              clear gh4 h4
              by_cases h5 : d.hash = ⟨#[]⟩
              · have gh5 := decide_eq_true h5
                have zh5 : d.hash.toList.isEmpty = true := by rw [h5, emp_nil]; rfl
                have yh5 : (d.hash.toList == ByteArray.toList ⟨#[]⟩) = true := by rw [h5, emp_nil]; rfl
                have xh5 : d.hash.toList = [] := by rw [h5, emp_nil]
                have Gh5 := Lib.hid gh5
                clear gh5 h5
                cases hp : pointZ d with
                | true =>
                  rw [hp] at hpt
                  have hR : R = true := by rw [HR.out]; unfold restZ; rw [Gh1.out, Gh2.out, Gh3.out, Gh4.out, Gh5.out, hp]; rfl
                  have HX := Lib.hid hR
                  clear hR HR
                  go_wp2_with fail
                  go_ret
                  rw [HX.out]
                  exact ⟨rfl, HB2.out⟩
                | false =>
                  rw [hp] at hpt
                  have hR : R = false := by rw [HR.out]; unfold restZ; rw [Gh1.out, Gh2.out, Gh3.out, Gh4.out, Gh5.out, hp]; rfl
                  have HX := Lib.hid hR
                  clear hR HR
                  go_wp2_with fail
                  go_ret
                  rw [HX.out]
                  exact ⟨rfl, HB2.out⟩
              · have gh5 := decide_eq_false h5
                obtain ⟨yh5, zh5⟩ := ne_emp h5
                have xh5 : ¬ d.hash.toList = [] := fun e => by rw [e] at zh5; cases zh5
                have Gh5 := Lib.hid gh5
                clear gh5 h5
                have hR : R = false := by rw [HR.out]; unfold restZ; rw [Gh1.out, Gh2.out, Gh3.out, Gh4.out, Gh5.out]; rfl
                have HX := Lib.hid hR
                clear hR HR
                go_wp2_with fail
                go_ret
                rw [HX.out]
                exact ⟨rfl, HB2.out⟩
            · have gh4 := decide_eq_false h4
              have zh4 : (d.of == 0) = false := beq_eq_false_iff_ne.2 h4
              have Gh4 := Lib.hid gh4
              clear gh4 h4
              have hR : R = false := by rw [HR.out]; unfold restZ; rw [Gh1.out, Gh2.out, Gh3.out, Gh4.out]; rfl
              have HX := Lib.hid hR
              clear hR HR
              go_wp2_with fail
              go_ret
              rw [HX.out]
              exact ⟨rfl, HB2.out⟩
          · have gh3 := decide_eq_false h3
            have zh3 : ((d.ln : Int) == 0) = false := beq_eq_false_iff_ne.2 (by omega)
            have yh3 : ¬ (d.ln : Int) = 0 := by omega
            have Gh3 := Lib.hid gh3
            clear gh3 h3
            have hR : R = false := by rw [HR.out]; unfold restZ; rw [Gh1.out, Gh2.out, Gh3.out]; rfl
            have HX := Lib.hid hR
            clear hR HR
            go_wp2_with fail
            go_ret
            rw [HX.out]
            exact ⟨rfl, HB2.out⟩
        · have gh2 := decide_eq_false h2
          obtain ⟨yh2, zh2⟩ := ne_emp h2
          have xh2 : ¬ d.org.toList = [] := fun e => by rw [e] at zh2; cases zh2
          have Gh2 := Lib.hid gh2
          clear gh2 h2
          have hR : R = false := by rw [HR.out]; unfold restZ; rw [Gh1.out, Gh2.out]; rfl
          have HX := Lib.hid hR
          clear hR HR
          go_wp2_with fail
          go_ret
          rw [HX.out]
          exact ⟨rfl, HB2.out⟩
      · have gh1 := decide_eq_false h1
        obtain ⟨yh1, zh1⟩ := ne_emp h1
        have xh1 : ¬ d.log.toList = [] := fun e => by rw [e] at zh1; cases zh1
        have Gh1 := Lib.hid gh1
        clear gh1 h1
        have hR : R = false := by rw [HR.out]; unfold restZ; rw [Gh1.out]; rfl
        have HX := Lib.hid hR
        clear hR HR
        go_wp2_with fail
        go_ret
        rw [HX.out]
        exact ⟨rfl, HB2.out⟩
end Go.Proofs.YtmejjphliaiamaaGreatDoor
