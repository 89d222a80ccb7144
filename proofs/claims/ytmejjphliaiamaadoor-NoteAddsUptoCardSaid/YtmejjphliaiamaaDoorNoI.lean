import Derived.Test.YtmejjphliaiamaaDoorNoH
set_option linter.unusedVariables false
set_option linter.unusedSimpArgs false
namespace Go.Proofs.YtmejjphliaiamaaDoor
open Go Go.RowKit Go.Lib

theorem eq_cp3 (w : World) (o r : ByteArray) (n : Int) : (binOp .eql 23 (.agg #[.string o, .int .i64 n, .string r]) (.agg #[.string o, .int .i64 n, .string r])).run Tryd.prog w = .ok (.bool true) w := by
  have u3 := Tryd.underlying3
  have a3 := Tryd.isAgg3
  have z3 := Tryd.sizeOf3
  have u5 := Tryd.underlying9
  have hS : Tryd.prog.underlying 23 = some (.struct (Tryd.prog.fieldsOf 23)) := by kernel_rfl
  have hp : Tryd.prog.stoodInHeld 23 = false := by kernel_rfl
  rw [run_eql_struct, show (10000 : Nat) = 9999 + 1 from rfl, run_equalIn_agg w 9999 23 _ _ hS hp]
  simp only [Program.fieldsOf, Tryd.underlying23]
  go_simp
theorem ne_cp3 (w : World) (o r : ByteArray) (n : Int) : (binOp .neq 23 (.agg #[.string o, .int .i64 n, .string r]) (.agg #[.string o, .int .i64 n, .string r])).run Tryd.prog w = .ok (.bool false) w := by
  have u3 := Tryd.underlying3
  have a3 := Tryd.isAgg3
  have z3 := Tryd.sizeOf3
  have u5 := Tryd.underlying9
  have hS : Tryd.prog.underlying 23 = some (.struct (Tryd.prog.fieldsOf 23)) := by kernel_rfl
  have hp : Tryd.prog.stoodInHeld 23 = false := by kernel_rfl
  rw [run_neq_struct, show (10000 : Nat) = 9999 + 1 from rfl, run_equalIn_agg w 9999 23 _ _ hS hp]
  simp only [Program.fieldsOf, Tryd.underlying23]
  go_simp

def z32 : ByteArray := ⟨(List.replicate 32 0).toArray⟩
def aB : ByteArray := ⟨#[97]⟩
theorem make32 (w : World) : (Instr.makeSlice 44 (.int .i64 32) (.int .i64 32)).run Tryd.prog w = .ok (.slice (some ⟨w.heap.size, 0, none⟩) 32 32) (w.alloc (.cells (Array.replicate 32 (.int .u8 0)) 5)) := by kernel_rfl
theorem zeros32_cells : strCells z32 = List.replicate 32 (.int .u8 0) := by kernel_rfl
theorem zeros32 (w : World) : OwnB (w.alloc (.cells (Array.replicate 32 (.int .u8 0)) 5)) w.heap.size (.slice (some ⟨w.heap.size, 0, none⟩) 32 32) z32 := by
  refine ⟨by rw [zeros32_cells]; rfl, .inr ⟨w.heap.size, 32, _, rfl, Nat.le_refl _, blk_new _ _, Nat.le_refl _, by unfold maxLen; omega, rfl, ?_⟩⟩
  rw [zeros32_cells]
  rfl
theorem tell_cp : cpV aB 0 z32 = (cpT aB 0 z32, 0) := cpV_good (by decide +kernel)
theorem tell_87 : (cpT aB 0 z32).size = 87 := by decide +kernel

set_option maxRecDepth 100000 in
set_option maxHeartbeats 1000000 in
theorem tells_any (w : World) (hV : VarsV w) : Calls Tryd.prog 7 #[] w fun e w' => e = .returned (.bool true) ∧ Below w.heap.size w w' := by
  have HV := Lib.hid hV
  have hT := fun W hW => text_any aB 0 z32 W (by decide) (by decide) hW
  have hq := parseP_back tell_cp
  have hP := fun W hW => parse_any (cpT aB 0 z32) W (by rw [tell_87]; decide) hW
  rw [tell_cp] at hT
  rw [hq] at hP
  have h87 := tell_87
  generalize cpT aB 0 z32 = T at hT hP h87
  have HT := Lib.hid hT
  have HP := Lib.hid hP
  have h87i : (T.size : Int) = 87 := by omega
  clear hV hT hP hq
  go_enter Tryd.func7, Tryd.ntmps7
  have hmk := make32
  go_wp2_with fail
  rw [run_str (zeros32 w)]
  simp only [Result.andThen]
  rw [Oper.upon_value]
  have HB0 := Lib.hid ((Below.refl w.heap.size w).alloc (Nat.le_refl _) (.cells (Array.replicate 32 (.int .u8 0)) 5))
  have HV0 := Lib.hid (HV.out.alloc (.cells (Array.replicate 32 (.int .u8 0)) 5))
  generalize w.alloc (.cells (Array.replicate 32 (.int .u8 0)) 5) = w0 at HB0 HV0 ⊢
  clear hmk
  have hvT := HV0.out.alloc (.cells #[.string aB, .int .i64 0, .string z32] 23)
  have HVT := Lib.hid hvT
  clear hvT
  go_wp2_with fail
  refine (HT.out _ HVT.out).mono ?_
  rintro e w1 ⟨rfl, hb⟩
  have hC : CpAt w1 w0.heap.size aB 0 z32 := blk_later (blk_new _ _) hb
  have HC := Lib.hid hC
  have HK1 := Lib.hid ((HB0.out.alloc HB0.out.size (.cells #[.string aB, .int .i64 0, .string z32] 23)).trans (hb.mono (by rw [size_alloc]; exact Nat.le_succ_of_le HB0.out.size)))
  clear hb hC
  go_wp2_with fail
  refine (HP.out _ (HV.out.below HK1.out)).mono ?_
  rintro e w2 ⟨rfl, hb⟩
  unfold cpTup cpVal
  have HC2 := Lib.hid (show CpAt w2 w0.heap.size aB 0 z32 from blk_later HC.out hb)
  have HK2 := Lib.hid (HK1.out.trans (hb.mono HK1.out.size))
  clear hb HC HK1
  go_wp2_with fail
  refine (format_t _ ((HV.out.below HK2.out).alloc _)).mono ?_
  rintro e w3 ⟨rfl, hb⟩
  have h3 : CpAt w3 w0.heap.size aB 0 z32 := blk_later (blk_alloc HC2.out _) hb
  have h4 : CpAt w3 w2.heap.size aB 0 z32 := blk_later (blk_new _ _) hb
  have HK3 := Lib.hid ((HK2.out.alloc HK2.out.size (.cells #[.string aB, .int .i64 0, .string z32] 23)).trans (hb.mono (by rw [size_alloc]; exact Nat.le_succ_of_le HK2.out.size)))
  obtain ⟨c0, c1, c2⟩ := h3.cells
  obtain ⟨d0, d1, d2⟩ := h4.cells
  have heq := fun W => eq_cp3 W aB z32 0
  clear hb h3 h4
  go_wp2_with fail
  go_ret
  exact ⟨rfl, HK3.out⟩

/-! ### NoteCheckpoints -/
set_option maxRecDepth 100000 in
set_option maxHeartbeats 2000000 in
theorem checkpoints_any (o : ByteArray) (n : Int) (r t : ByteArray) (w : World) (ho : o.size ≤ 9223372036854775807) (hr : r.size ≤ 9223372036854775807) (ht : t.size ≤ 2097152) (hV : VarsV w) :
    Calls Tryd.prog 3 #[cpVal o n r, .string t] w fun e w' => e = .returned (.bool true) ∧ Below w.heap.size w w' := by
  have HV := Lib.hid hV
  have HT := Lib.hid (fun W hW => text_any o n r W ho hr hW)
  have HR := Lib.hid (fun W hW => rtext_any o n r W ho hr hW)
  have HP := Lib.hid (fun W hW => parse_any t W ht hW)
  have hq := fun W hW => rparse_any t W ht hW
  rw [← parse_same t] at hq
  have HQ := Lib.hid hq
  have hback : (cpV o n r).2 = 0 → ∀ W, VarsV W → Calls Tryd.prog 10 #[.string (cpV o n r).1] W fun e w' => e = .returned (cpTup ((o, n, r), 0)) ∧ Below W.heap.size W w' := by
    intro h W hW
    have h2 : cpV o n r = ((cpV o n r).1, 0) := Prod.ext rfl h
    have hg := (cpV_ok h2)
    have hs : (cpV o n r).1.size ≤ 2097152 := by rw [hg.2]; exact Nat.le_trans (cpT_size o n r hg.1) (by decide)
    have := parse_any (cpV o n r).1 W hs hW
    rw [parseP_back h2] at this
    exact this
  have HBk := Lib.hid hback
  have hzero : (cpV o n r).2 = 0 ∨ (cpV o n r).2 = 1 := by unfold cpV; split <;> simp
  have HZ := Lib.hid hzero
  have hcs := parseP_cases t
  have hagain : (parseP t).2 = 0 → cpV (parseP t).1.1 (parseP t).1.2.1 (parseP t).1.2.2 = (t, 0) ∧ (parseP t).1.1.size ≤ 9223372036854775807 ∧ (parseP t).1.2.2.size ≤ 9223372036854775807 := by
    intro h
    rcases hcs with h2 | ⟨c, h2, h3⟩
    · rw [h2] at h; cases h
    · rw [h2]
      refine ⟨h3, ?_⟩
      have hg := (cpV_ok h3).1
      unfold cpGood origG at hg
      simp only [Bool.and_eq_true, decide_eq_true_eq] at hg
      obtain ⟨⟨⟨h1, h2'⟩, h3'⟩, h4, h5, h6⟩ := hg
      exact ⟨by show c.1.size ≤ _; omega, by show c.2.2.size ≤ _; omega⟩
  have h03 : (parseP t).2 = 0 ∨ (parseP t).2 = 3 := by
    rcases hcs with h2 | ⟨c, h2, h3⟩
    · rw [h2]; exact .inr rfl
    · rw [h2]; exact .inl rfl
  have HA := Lib.hid hagain
  have H03 := Lib.hid h03
  clear hcs hagain h03 hzero hback hq hV
  unfold cpTup cpVal at HP HQ HBk
  generalize cpV o n r = q at HT HR HBk HZ
  generalize parseP t = p at HP HQ HA H03
  obtain ⟨⟨po, pn, pr⟩, pe⟩ := p
  unfold cpVal
  go_enter Tryd.func3, Tryd.ntmps3
  go_wp2_with fail
  refine (tells_any _ (HV.out.alloc _)).mono ?_
  rintro e w1 ⟨rfl, hb⟩
  have HC1 := Lib.hid (show CpAt w1 w.heap.size o n r from blk_later (blk_new _ _) hb)
  have HK1 := Lib.hid (((Below.refl w.heap.size w).alloc (Nat.le_refl _) (.cells #[.string o, .int .i64 n, .string r] 23)).trans (hb.mono (by rw [size_alloc]; omega)))
  obtain ⟨c0, c1, c2⟩ := HC1.out.cells
  clear hb
  go_wp2_with fail
  refine (HT.out _ (HV.out.below HK1.out)).mono ?_
  rintro e w2 ⟨rfl, hb⟩
  have HC2 := Lib.hid (show CpAt w2 w.heap.size o n r from blk_later HC1.out hb)
  have HK2 := Lib.hid (HK1.out.trans (hb.mono HK1.out.size))
  clear hb c0 c1 c2 HC1 HK1
  obtain ⟨c0, c1, c2⟩ := HC2.out.cells
  go_wp2_with fail
  refine (HR.out _ (HV.out.below HK2.out)).mono ?_
  rintro e w3 ⟨rfl, hb⟩
  have HC3 := Lib.hid (show CpAt w3 w.heap.size o n r from blk_later HC2.out hb)
  have HK3 := Lib.hid (HK2.out.trans (hb.mono HK2.out.size))
  clear hb c0 c1 c2 HC2 HK2
  go_wp2_with fail
  refine (HP.out _ (HV.out.below HK3.out)).mono ?_
  rintro e w4 ⟨rfl, hb⟩
  have HC4 := Lib.hid (show CpAt w4 w.heap.size o n r from blk_later HC3.out hb)
  have HK4 := Lib.hid (HK3.out.trans (hb.mono HK3.out.size))
  clear hb HC3 HK3
  go_wp2_with fail
  refine (HQ.out _ ((HV.out.below HK4.out).alloc _)).mono ?_
  rintro e w5 ⟨rfl, hb⟩
  have hC5 : CpAt w5 w.heap.size o n r := blk_later (blk_alloc HC4.out _) hb
  have hD5 : CpAt w5 w4.heap.size po pn pr := blk_later (blk_new _ _) hb
  have HC5 := Lib.hid hC5
  have HD5 := Lib.hid hD5
  have HK5 := Lib.hid ((HK4.out.alloc HK4.out.size (.cells #[.string po, .int .i64 pn, .string pr] 23)).trans (hb.mono (by rw [size_alloc]; exact Nat.le_succ_of_le HK4.out.size)))
  clear hb hC5 hD5 HC4 HK4
  have hlt5 : w4.heap.size < w5.heap.size := (Array.getElem?_eq_some_iff.1 HD5.out).1
  generalize w4.heap.size = nd at HD5 hlt5 ⊢
  have HC6 := Lib.hid (show CpAt (w5.alloc (.cells #[.string po, .int .i64 pn, .string pr] 23)) w.heap.size o n r from blk_alloc HC5.out _)
  have HD6 := Lib.hid (show CpAt (w5.alloc (.cells #[.string po, .int .i64 pn, .string pr] 23)) nd po pn pr from blk_alloc HD5.out _)
  have HE6 := Lib.hid (show CpAt (w5.alloc (.cells #[.string po, .int .i64 pn, .string pr] 23)) w5.heap.size po pn pr from blk_new _ _)
  have HK6 := Lib.hid (HK5.out.alloc HK5.out.size (.cells #[.string po, .int .i64 pn, .string pr] 23))
  have heq := fun W => ne_cp3 W po pr pn
  have hne1 := fun W => ne_cp3 W o r n
  obtain ⟨c0, c1, c2⟩ := HC6.out.cells
  obtain ⟨d0, d1, d2⟩ := HD6.out.cells
  obtain ⟨e0, e1, e2⟩ := HE6.out.cells
  rcases H03.out with hp3 | hp3
  · have hp3b := hp3
    subst hp3
    have hag := HA.out rfl
    have htd := fun W hW => text_any po pn pr W hag.2.1 hag.2.2 hW
    rw [hag.1] at htd
    have HTd := Lib.hid htd
    clear hag htd
    rcases HZ.out with hz | hz
    · generalize hq1 : q.1 = qs at HT HR HBk
      generalize hqe : q.2 = qe at HT HR HBk hz
      subst hz
      go_wp2_with fail
      refine (HBk.out trivial _ (HV.out.below HK6.out)).mono ?_
      rintro e w6 ⟨rfl, hb⟩
      have HC7 := Lib.hid (show CpAt w6 w.heap.size o n r from blk_later HC6.out hb)
      have HD7 := Lib.hid (show CpAt w6 nd po pn pr from blk_later HD6.out hb)
      have HK7 := Lib.hid (HK6.out.trans (hb.mono HK6.out.size))
      clear hb c0 c1 c2 d0 d1 d2 e0 e1 e2
      have HK8 := Lib.hid (HK7.out.alloc HK7.out.size (.cells #[.string o, .int .i64 n, .string r] 23))
      have HC8 : CpAt (w6.alloc (.cells #[.string o, .int .i64 n, .string r] 23)) w.heap.size o n r := blk_alloc HC7.out _
      have HD8 : CpAt (w6.alloc (.cells #[.string o, .int .i64 n, .string r] 23)) nd po pn pr := blk_alloc HD7.out _
      have HE8 : CpAt (w6.alloc (.cells #[.string o, .int .i64 n, .string r] 23)) w6.heap.size o n r := blk_new _ _
      obtain ⟨c0, c1, c2⟩ := HC8.cells
      obtain ⟨d0, d1, d2⟩ := HD8.cells
      obtain ⟨e0, e1, e2⟩ := HE8.cells
      clear HC8 HD8 HE8
      go_wp2_with fail
      refine (HTd.out _ (HV.out.below HK8.out)).mono ?_
      rintro e wz ⟨rfl, hb⟩
      have HKz := Lib.hid (HK8.out.trans (hb.mono HK8.out.size))
      clear hb
      go_wp2_with fail
      go_ret
      exact ⟨rfl, HKz.out⟩
    · generalize hq1 : q.1 = qs at HT HR HBk
      generalize hqe : q.2 = qe at HT HR HBk hz
      subst hz
      go_wp2_with fail
      refine (HTd.out _ (HV.out.below HK6.out)).mono ?_
      rintro e wz ⟨rfl, hb⟩
      have HKz := Lib.hid (HK6.out.trans (hb.mono HK6.out.size))
      clear hb
      go_wp2_with fail
      go_ret
      exact ⟨rfl, HKz.out⟩
  · have hp3b := hp3
    subst hp3
    rcases HZ.out with hz | hz
    · generalize hq1 : q.1 = qs at HT HR HBk
      generalize hqe : q.2 = qe at HT HR HBk hz
      subst hz
      go_wp2_with fail
      refine (HBk.out trivial _ (HV.out.below HK6.out)).mono ?_
      rintro e w6 ⟨rfl, hb⟩
      have HC7 := Lib.hid (show CpAt w6 w.heap.size o n r from blk_later HC6.out hb)
      have HD7 := Lib.hid (show CpAt w6 nd po pn pr from blk_later HD6.out hb)
      have HK7 := Lib.hid (HK6.out.trans (hb.mono HK6.out.size))
      clear hb c0 c1 c2 d0 d1 d2 e0 e1 e2
      have HK8 := Lib.hid (HK7.out.alloc HK7.out.size (.cells #[.string o, .int .i64 n, .string r] 23))
      have HC8 : CpAt (w6.alloc (.cells #[.string o, .int .i64 n, .string r] 23)) w.heap.size o n r := blk_alloc HC7.out _
      have HD8 : CpAt (w6.alloc (.cells #[.string o, .int .i64 n, .string r] 23)) nd po pn pr := blk_alloc HD7.out _
      have HE8 : CpAt (w6.alloc (.cells #[.string o, .int .i64 n, .string r] 23)) w6.heap.size o n r := blk_new _ _
      obtain ⟨c0, c1, c2⟩ := HC8.cells
      obtain ⟨d0, d1, d2⟩ := HD8.cells
      obtain ⟨e0, e1, e2⟩ := HE8.cells
      clear HC8 HD8 HE8
      go_wp2_with fail
      go_ret
      exact ⟨rfl, HK8.out⟩
    · generalize hq1 : q.1 = qs at HT HR HBk
      generalize hqe : q.2 = qe at HT HR HBk hz
      subst hz
      go_wp2_with fail
      go_ret
      exact ⟨rfl, HK6.out⟩
end Go.Proofs.YtmejjphliaiamaaDoor
