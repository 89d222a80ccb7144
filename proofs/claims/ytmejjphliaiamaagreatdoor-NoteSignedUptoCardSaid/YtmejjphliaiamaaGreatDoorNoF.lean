import Derived.Test.YtmejjphliaiamaaGreatDoorNoE
import Derived.Deep.RegionLaw
set_option linter.unusedVariables false
set_option linter.unusedSimpArgs false
namespace Go.Proofs.YtmejjphliaiamaaGreatDoor
open Go Go.RowKit Go.Lib

theorem lines_pcs {t : ByteArray} {done : List ByteArray} (h : done.map (·.data.toList) = (cutsL t.data.toList).dropLast) : ∃ z, pcs t = done ++ [z] := by
  have hp := pcs_data t
  have hne : pcs t ≠ [] := by
    intro h0
    rw [h0] at hp
    exact cutsL_ne _ hp.symm
  refine ⟨(pcs t).getLast hne, ?_⟩
  have h1 : (pcs t).dropLast.map (·.data.toList) = done.map (·.data.toList) := by rw [h, ← hp, List.map_dropLast]
  have h2 : (pcs t).dropLast = done := by
    have hinj : ∀ (a b : List ByteArray), a.map (·.data.toList) = b.map (·.data.toList) → a = b := by
      intro a
      induction a with
      | nil => intro b hb; cases b with
        | nil => rfl
        | cons x y => simp at hb
      | cons x y ih => intro b hb; cases b with
        | nil => simp at hb
        | cons u v =>
          simp only [List.map_cons, List.cons.injEq] at hb
          rw [ba_ext hb.1, ih v hb.2]
    exact hinj _ _ h1
  rw [← h2]
  exact (List.dropLast_concat_getLast hne).symm
theorem parseR_flag {t : ByteArray} (h : ¬ (cutsL t.data.toList).getLast? = some []) : parseR t = (cp0, 3) := by unfold parseR; rw [if_neg h]
theorem parseR_other {t : ByteArray} {done : List ByteArray} {z : ByteArray} (h : pcs t = done ++ [z]) (h4 : done.length ≠ 4) : parseR t = (cp0, 3) := by
  unfold parseR
  split
  · split
    · rename_i hh
      rw [h] at hh
      have := congrArg List.length hh
      simp at this
      exact absurd this h4
    · rfl
  · rfl
theorem parseR_four {t q0 q1 q2 q3 z : ByteArray} (hf : (cutsL t.data.toList).getLast? = some []) (h : pcs t = [q0, q1, q2, q3] ++ [z]) : parseR t = if ((unhexB q3).2 && takes (q1, sizeR q2, (unhexB q3).1) t) = true then ((q1, sizeR q2, (unhexB q3).1), 0) else (cp0, 3) := by
  unfold parseR
  rw [if_pos hf, h]
  rfl
theorem four_of {α : Type} {l : List α} (h : l.length = 4) : ∃ a b c d, l = [a, b, c, d] := by
  match l, h with
  | [a, b, c, d], _ => exact ⟨a, b, c, d, rfl⟩
theorem sizeR_bd (s : ByteArray) : -1 ≤ sizeR s ∧ sizeR s ≤ 20000 := by
  unfold sizeR
  have hgo : ∀ (l : List UInt8) (n m : Nat), n ≤ 20000 → sizeGo n l = some m → m ≤ 20000 := by
    intro l
    induction l with
    | nil => intro n m hn h; unfold sizeGo at h; obtain rfl := Option.some.inj h; exact hn
    | cons c r ih =>
      intro n m hn h
      rw [sizeGo_cons] at h
      split at h
      · cases h
      · have := c.toNat_lt
        exact ih _ _ (by omega) h
  split
  · omega
  · rename_i n h
    have := hgo _ _ _ (by omega) h
    split <;> omega

structure RBn (w0 w : World) (b c : Nat) (o : ByteArray) (n : Int) (r : ByteArray) : Prop where
  out : CpAt w b ⟨#[]⟩ 0 ⟨#[]⟩
  at_ : CpAt w c o n r
  lt : b < c
  below : Below w0.heap.size w0 w
  base : w0.heap.size ≤ b
theorem RBn.later {w0 w w' : World} {b c : Nat} {o : ByteArray} {n : Int} {r : ByteArray} (h : RBn w0 w b c o n r) (k : Below w.heap.size w w') : RBn w0 w' b c o n r :=
  ⟨blk_later h.out k, blk_later h.at_ k, h.lt, h.below.trans (k.mono h.below.size), h.base⟩
theorem hat_of {w2 w3 : World} (hb : Below (w2.alloc (.cells #[.string ⟨#[]⟩, .int .i64 0, .string ⟨#[]⟩] 28)).drew.heap.size (w2.alloc (.cells #[.string ⟨#[]⟩, .int .i64 0, .string ⟨#[]⟩] 28)).drew w3) : CpAt w3 w2.heap.size ⟨#[]⟩ 0 ⟨#[]⟩ :=
  blk_later (w := (w2.alloc (.cells #[.string ⟨#[]⟩, .int .i64 0, .string ⟨#[]⟩] 28)).drew) (blk_new w2 _) hb
theorem cell_d {w2 w3 : World} {p : Addr} {v : Value} (h : w2.cell? p = some v) (hb : Below w2.drew.heap.size w2.drew w3) : w3.cell? p = some v := (hb.cell (p := p) (cell_lt (w := w2) h)).trans h
theorem cell_ad {w2 w3 : World} {p : Addr} {v : Value} {Z : Obj} (h : w2.cell? p = some v) (hb : Below (w2.alloc Z).drew.heap.size (w2.alloc Z).drew w3) : w3.cell? p = some v :=
  cell_d (w2 := w2.alloc Z) (cell_alloc h Z) hb
theorem rb_A {w0 w2 w3 : World} {Z : Obj} (hA : CpAt w2 w0.heap.size ⟨#[]⟩ 0 ⟨#[]⟩) (hK : Below w0.heap.size w0 w2) (hat : CpAt w3 w2.heap.size ⟨#[]⟩ 0 ⟨#[]⟩) (hb : Below (w2.alloc Z).drew.heap.size (w2.alloc Z).drew w3) (o : ByteArray) (n : Int) (r : ByteArray) :
    RBn w0 (((w3.setCell ⟨w2.heap.size, 0, none⟩ (.string o)).setCell ⟨w2.heap.size, 1, none⟩ (.int .i64 n)).setCell ⟨w2.heap.size, 2, none⟩ (.string r)) w0.heap.size w2.heap.size o n r := by
  have hlt : w0.heap.size < w2.heap.size := (Array.getElem?_eq_some_iff.1 hA).1
  have h1 : CpAt w3 w0.heap.size ⟨#[]⟩ 0 ⟨#[]⟩ := blk_later (w := (w2.alloc Z).drew) (blk_alloc hA Z) hb
  have hk3 : Below w0.heap.size w0 w3 := (below_drew' (hK.alloc hK.size Z)).trans (hb.mono (by simp; omega))
  exact ⟨blk_set_other (blk_set_other (blk_set_other h1 (by omega) _) (by omega) _) (by omega) _, hat.set3 _ _ _, hlt, below_set3v hk3 (by omega) _ _ _, Nat.le_refl _⟩
theorem rb_B {w0 w2 w3 : World} (hA : CpAt w2 w0.heap.size ⟨#[]⟩ 0 ⟨#[]⟩) (hK : Below w0.heap.size w0 w2) (hb : Below w2.drew.heap.size w2.drew w3) (o : ByteArray) (n : Int) (r : ByteArray) :
    RBn w0 (w3.alloc (.cells #[.string o, .int .i64 n, .string r] 28)) w0.heap.size w3.heap.size o n r := by
  have h1 : CpAt w3 w0.heap.size ⟨#[]⟩ 0 ⟨#[]⟩ := blk_later (w := w2.drew) hA hb
  have hk3 : Below w0.heap.size w0 w3 := (below_drew' hK).trans (hb.mono hK.size)
  exact ⟨blk_alloc h1 _, blk_new _ _, (Array.getElem?_eq_some_iff.1 h1).1, hk3.alloc hk3.size _, Nat.le_refl _⟩

set_option maxRecDepth 100000 in
set_option maxHeartbeats 4000000 in
theorem rparse_any (t : ByteArray) (w : World) (ht : t.size ≤ 2097152) (hV : VarsV w) :
    Calls Tryz.prog 89 #[.string t] w fun e w' => e = .returned (cpTup (parseR t)) ∧ Below w.heap.size w w' := by
  have HL := Lib.hid (fun W => lines_any t W (by omega))
  have HV := Lib.hid hV
  have hpz := fun p (h : p ∈ pcs t) => piece_size h
  have HZ := Lib.hid hpz
  clear hV hpz
  obtain ⟨res, hres⟩ : ∃ res, res = parseR t := ⟨_, rfl⟩
  rw [← hres]
  have HR := Lib.hid hres
  clear hres
  unfold LinesPost at HL
  go_enter Tryz.func89, Tryz.ntmps89
  go_wp2_with fail
  refine (HL.out _).mono ?_
  rintro e w1 ⟨v, done, fl, rfl, hO, hm, hf, hb⟩
  have hA : CpAt w1 w.heap.size ⟨#[]⟩ 0 ⟨#[]⟩ := blk_later (blk_new _ _) hb
  have hK : Below w.heap.size w w1 := ((Below.refl w.heap.size w).alloc (Nat.le_refl _) _).trans (hb.mono (by rw [size_alloc]; omega))
  have HA := Lib.hid hA
  have HK := Lib.hid hK
  have HM := Lib.hid hm
  have HF := Lib.hid hf
  obtain ⟨ao, cap, rfl, hcap, hcm, hcells⟩ := OwnL.form hO
  have HC := Lib.hid hcells
  obtain ⟨o0, o1, o2⟩ := hA.cells
  have fo0 := free_of_blk hA 0
  have fo1 := free_of_blk hA 1
  have fo2 := free_of_blk hA 2
  clear hA hK hm hf hcells hb HL hO
  cases fl with
  | false =>
    have HB := Lib.hid (HR.out.trans (parseR_flag (fun h => by have := HF.out.2 h; cases this)))
    go_wp2_with fail
    exact cp_ret _ _ w w.heap.size ⟨#[]⟩ 0 ⟨#[]⟩ 3 (HA.out.set3 _ _ _) (by rw [HB.out]; rfl) (below_set3v HK.out (Nat.le_refl _) _ _ _) rfl rfl rfl rfl
  | true =>
    by_cases h4 : done.length = 4
    · obtain ⟨q0, q1, q2, q3, rfl⟩ := four_of h4
      obtain ⟨z, hz⟩ := lines_pcs HM.out
      have hg4 := HR.out.trans (parseR_four (HF.out.1 rfl) hz)
      have z1 := HZ.out q1 (by rw [hz]; simp)
      have z2 := HZ.out q2 (by rw [hz]; simp)
      have z3 := HZ.out q3 (by rw [hz]; simp)
      obtain ⟨g, rfl, -, -, hcs⟩ := HC.out (by simp)
      have d1 : w1.cell? ⟨g, 1, none⟩ = some (.string q1) := hcs 1 (by simp)
      have d2 : w1.cell? ⟨g, 2, none⟩ = some (.string q2) := hcs 2 (by simp)
      have d3 : w1.cell? ⟨g, 3, none⟩ = some (.string q3) := hcs 3 (by simp)
      clear hz hcs HC HM HZ h4
      have hu := unhexB_le q3
      have HU := Lib.hid (fun W => runhex_any q3 W (by omega))
      have HS := Lib.hid (fun W hW => size_any q2 W (by omega) hW)
      have hsb := sizeR_bd q2
      have hk : takes (q1, sizeR q2, (unhexB q3).1) t = (decide ((cpV q1 (sizeR q2) (unhexB q3).1).2 = 0) && decide ((cpV q1 (sizeR q2) (unhexB q3).1).1 = t)) := rfl
      rw [hk] at hg4
      have HG := Lib.hid hg4
      clear hk hg4
      generalize sizeR q2 = n at HS HG hsb
      generalize (unhexB q3).2 = ub at HU HG
      generalize (unhexB q3).1 = u at HU HG hu
      have HT := Lib.hid (fun W hW => rtext_any q1 n u W (by omega) (by omega) hW)
      generalize cpV q1 n u = q at HT HG
      go_wp2_with fail
      refine (HU.out _).mono ?_
      rintro e w2 ⟨rfl, hb⟩
      have HA2 := Lib.hid (show CpAt w2 w.heap.size ⟨#[]⟩ 0 ⟨#[]⟩ from blk_later HA.out hb)
      have HK2 := Lib.hid (HK.out.trans (hb.mono HK.out.size))
      have e1 := (hb.cell (p := ⟨g, 1, none⟩) (cell_lt d1)).trans d1
      have e2 := (hb.cell (p := ⟨g, 2, none⟩) (cell_lt d2)).trans d2
      have e1a := fun o => cell_alloc e1 o
      have e2a := fun o => cell_alloc e2 o
      clear hb d1 d2 d3 o0 o1 o2 fo0 fo1 fo2 HA HK
      go_wp2_with fail
      have hV2 : VarsV w2.drew := (HV.out.below HK2.out).below (below_drew' (Below.refl _ _))
      have hV3 : ∀ o, VarsV (w2.alloc o).drew := fun o => ((HV.out.below HK2.out).alloc o).below (below_drew' (Below.refl _ _))
      have HV2 := Lib.hid hV2
      have HV3 := Lib.hid hV3
      clear hV2 hV3
      go_region_law ((go_simp; first
        | (refine (HS.out _ (HV3.out _)).mono ?_; rintro e w3 ⟨rfl, hb3⟩; have e13 := cell_ad e1 hb3; have hat := hat_of hb3; obtain ⟨j0, j1, j2⟩ := hat.cells; have fj0 := free_of_blk hat 0; have fj1 := free_of_blk hat 1; have fj2 := free_of_blk hat 2)
        | (refine (HS.out _ HV2.out).mono ?_; rintro e w3 ⟨rfl, hb3⟩; have e13 := cell_d e1 hb3; have e13a := fun o => cell_alloc e13 o)))
      all_goals first
        | (have hN := rb_A HA2.out HK2.out hat hb3 q1 n u
           have HN := Lib.hid hN
           clear hN hat j0 j1 j2 fj0 fj1 fj2 hb3
           generalize ((w3.setCell ⟨w2.heap.size, 0, none⟩ (.string q1)).setCell ⟨w2.heap.size, 1, none⟩ (.int .i64 n)).setCell ⟨w2.heap.size, 2, none⟩ (.string u) = W at HN ⊢
           generalize w2.heap.size = c at HN ⊢)
        | (have hN := rb_B HA2.out HK2.out hb3 q1 n u
           have HN := Lib.hid hN
           clear hN hb3
           generalize w3.alloc (.cells #[.string q1, .int .i64 n, .string u] 28) = W at HN ⊢
           generalize w3.heap.size = c at HN ⊢)
      all_goals
        obtain ⟨k0, k1, k2⟩ := HN.out.at_.cells
        go_wp2_with fail
        refine (HT.out _ (HV.out.below HN.out.below)).mono ?_
        rintro e w4 ⟨rfl, hb⟩
        have H7 := Lib.hid (HN.out.later hb)
        clear hb k0 k1 k2 HN
        obtain ⟨k0, k1, k2⟩ := H7.out.at_.cells
        obtain ⟨o0, o1, o2⟩ := H7.out.out.cells
        have fo0 := free_of_blk H7.out.out 0
        have fo1 := free_of_blk H7.out.out 1
        have fo2 := free_of_blk H7.out.out 2
        cases ub with
        | true =>
          by_cases hq2 : q.2 = 0
          · have hq2b : (q.2 == 0) = true := beq_iff_eq.2 hq2
            have hq2n : (q.2 != 0) = false := by rw [bne, hq2b]; rfl
            by_cases hq1 : q.1 = t
            · have hq1b : (q.1.toList == t.toList) = true := by rw [hq1]; exact beq_self_eq_true _
              have hg := HG.out
              rw [decide_eq_true hq2, decide_eq_true hq1] at hg
              have HGG := Lib.hid (hg.trans (if_pos rfl))
              clear hg hq1
              go_wp2_with fail
              exact cp_ret _ _ w w.heap.size q1 n u 0 (H7.out.out.set3 _ _ _) (by rw [HGG.out]) (below_set3v H7.out.below (Nat.le_refl _) _ _ _) rfl rfl rfl rfl
            · have hq1b : (q.1.toList == t.toList) = false := by rw [toList_eqbV]; exact decide_eq_false hq1
              have hg := HG.out
              rw [decide_eq_true hq2, decide_eq_false hq1] at hg
              have HB := Lib.hid (hg.trans (if_neg (by decide)))
              clear hg hq1
              go_wp2_with fail
              exact cp_ret _ _ w w.heap.size ⟨#[]⟩ 0 ⟨#[]⟩ 3 (H7.out.out.set3 _ _ _) (by rw [HB.out]; rfl) (below_set3v H7.out.below (Nat.le_refl _) _ _ _) rfl rfl rfl rfl
          · have hq2b : (q.2 == 0) = false := beq_eq_false_iff_ne.2 hq2
            have hq2n : (q.2 != 0) = true := bne_iff_ne.2 hq2
            have hg := HG.out
            rw [decide_eq_false hq2] at hg
            have HB := Lib.hid (hg.trans (if_neg (by simp)))
            clear hg
            go_wp2_with fail
            exact cp_ret _ _ w w.heap.size ⟨#[]⟩ 0 ⟨#[]⟩ 3 (H7.out.out.set3 _ _ _) (by rw [HB.out]; rfl) (below_set3v H7.out.below (Nat.le_refl _) _ _ _) rfl rfl rfl rfl
        | false =>
          have HB := Lib.hid (HG.out.trans (if_neg (by simp)))
          go_wp2_with fail
          exact cp_ret _ _ w w.heap.size ⟨#[]⟩ 0 ⟨#[]⟩ 3 (H7.out.out.set3 _ _ _) (by rw [HB.out]; rfl) (below_set3v H7.out.below (Nat.le_refl _) _ _ _) rfl rfl rfl rfl
    · obtain ⟨z, hz⟩ := lines_pcs HM.out
      have HB := Lib.hid (HR.out.trans (parseR_other hz h4))
      have h4i : ¬ (done.length : Int) = 4 := by omega
      have h4b : ((done.length : Int) != 4) = true := bne_iff_ne.2 h4i
      have h4c : ((done.length : Int) == 4) = false := beq_eq_false_iff_ne.2 h4i
      clear hz h4
      go_wp2_with fail
      exact cp_ret _ _ w w.heap.size ⟨#[]⟩ 0 ⟨#[]⟩ 3 (HA.out.set3 _ _ _) (by rw [HB.out]; rfl) (below_set3v HK.out (Nat.le_refl _) _ _ _) rfl rfl rfl rfl
end Go.Proofs.YtmejjphliaiamaaGreatDoor
