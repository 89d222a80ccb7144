import Derived.Test.YtffolbdimkhmmaaDoorSfD
set_option linter.unusedVariables false
set_option linter.unusedSimpArgs false
namespace Go.Proofs.YtffolbdimkhmmaaDoor
open Go Go.RowKit Go.Lib

/-! ### ScriptTexts -/
set_option maxRecDepth 100000 in
set_option maxHeartbeats 4000000 in
theorem scripttexts_any (v : Value) (L : List StP) (w : World) (hV : VarsV w) (hM : StM w v L) (hok : ∀ x ∈ L, okS x) (hz : stsW L ≤ 2000000000) (hform : v = .slice none 0 0 ∨ ∃ a9 n c, v = .slice (some a9) n c) :
    Calls Tryd.prog 4 #[v] w fun e w' => e = .returned (.bool true) ∧ Below w.heap.size w w' := by
  have hlen := sts_len L
  have HR := Lib.hid (reads_any w hV)
  have HV := Lib.hid hV
  have HM := Lib.hid hM
  have HOk := Lib.hid hok
  have HKl := Lib.hid (fun x (hx : x ∈ L) => stW_mem L x hx)
  have HFo := Lib.hid hform
  obtain ⟨ad, cap, rfl, hcap1, hcap2, -⟩ := id hM
  clear hV hM hok hform
  go_enter Tryd.func4, Tryd.ntmps4
  go_wp2_with fail
  refine HR.out.mono ?_
  rintro e w1 ⟨rfl, hb1⟩
  have hs1 := hb1.size
  have hbA := hb1.alloc hs1 (.cells #[] TSt)
  have hO1 : OwnSt (w1.alloc (.cells #[] TSt)) w1.heap.size (.slice (some ⟨w1.heap.size, 0, none⟩) 0 0) [] :=
    ⟨rfl, .inr ⟨w1.heap.size, 0, #[], rfl, Nat.le_refl _, blk_new w1 _, Nat.le_refl _, Nat.zero_le _, rfl, rfl⟩⟩
  have hbA1 : Below w1.heap.size w1 (w1.alloc (.cells #[] TSt)) := (Below.refl _ _).alloc (Nat.le_refl _) _
  have hsA : (w1.alloc (.cells #[] TSt)).heap.size = w1.heap.size + 1 := size_alloc _ _
  have HO1 := Lib.hid hO1
  have HBA := Lib.hid hbA
  have HBA1 := Lib.hid hbA1
  have HB1 := Lib.hid hb1
  clear hb1 HR hbA hO1 hbA1
  go_wp2_with (first | (at_builtin; refine wpList_appSt _ rfl rfl _ _ rfl w1.heap.size _ [] rfl HO1.out _ L rfl w HM.out HBA.out HFo.out ?_ ?_ ?_) | fail)
  · show 0 + L.length ≤ _; omega
  · first | omega | (rw [size_alloc]; omega)
  intro LL v2 w2 hLL hI2 ho2 hg2
  have hb2 : Below w1.heap.size w1 w2 := HBA1.out.grown hg2 (by omega) (fun g hg => (OwnL.lt HO1.out g hg).1)
  have hs2 := hb2.size
  have HO2 := Lib.hid ho2
  have HB2 := Lib.hid hb2
  have HLL := Lib.hid hLL
  have HI2 := Lib.hid hI2
  have hll : LL.length = L.length := by rw [← hLL, List.length_map]
  obtain ⟨i0, hi, hz0, hz1, hz2⟩ := info_parts infoSt
  have HIn := Lib.hid hz2
  clear ho2 hg2 hb2 hLL hI2 hz2
  go_wp2_with (first | (at_builtin; refine wpList_appL _ rfl _ _ 23 rfl i0 (.agg #[.int .i64 0, .int .i64 0, .int .i64 0, .int .i64 0, .string ⟨#[]⟩, .slice none 0 0]) 72 Tryd.underlying23 hi hz0 hz1 HIn.out rfl (by decide) w1.heap.size _ ([] ++ LL) rfl (OwnL.alloc HO2.out _) (zst 77, .slice none 0 0) rfl ⟨w2.heap.size, 0, none⟩ 1 rfl ?_ ?_ ?_ (by decide) ?_ ?_) | fail)
  · intro j u hu
    rw [Lib.add_plain, Nat.zero_add]
    exact cell_of_blk (blk_new w2 _) j (by first | exact hu | simpa [stepL, zst] using hu)
  · intro u hu
    simp only [stepL, List.mem_cons, List.not_mem_nil, or_false] at hu
    rcases hu with rfl | rfl | rfl | rfl | rfl | rfl <;> rfl
  · rw [List.nil_append]; omega
  · first | omega | (rw [size_alloc]; omega)
  intro v3 w3 ho3 hg3 hown3
  have hf3 := below_appS HB2.out HO2.out hs2 _ hg3
  have hb3 := HB1.out.trans (hf3.1.mono hs1)
  obtain ⟨ad3, cap3, rfl, hc31, hc32, hc3⟩ := own_cells (size := 6) (fun _ => rfl) (by decide) ho3
  obtain ⟨g, rfl, hgc⟩ := hc3 LL.length (zst 77, .slice none 0 0) (by simp)
  have c77 : w3.cell? ⟨g, L.length * 6, none⟩ = some (.int .i64 77) := by
    have := hgc 0 _ rfl
    rwa [hll, Nat.add_zero] at this
  have hl3 : (([] ++ LL) ++ [(zst 77, Value.slice none 0 0)]).length = L.length + 1 := by simp [hll]
  rw [show ((LL ++ [(zst 77, Value.slice none 0 0)]).length) = L.length + 1 by simp [hll]] at hc31 ⊢
  have hM3 : StM w3 (.slice (some ⟨g, 0, none⟩) L.length cap3) L := by
    refine ⟨_, _, rfl, by omega, hc32, fun i x hx => ?_⟩
    have hiL : i < LL.length := by have := (List.getElem?_eq_some_iff.1 hx).1; omega
    have hy : LL[i]? = some LL[i] := List.getElem?_eq_getElem hiL
    have hx2 : x = LL[i].1 := by
      have h9 := HLL.out
      rw [← h9, List.getElem?_map, hy] at hx
      exact (Option.some.inj hx).symm
    obtain ⟨g', hg', hcc⟩ := hc3 i LL[i] (by first | exact (List.getElem?_append_left hiL).trans hy | simp [List.getElem?_append_left, hiL])
    injection hg' with hg'
    injection hg' with hg'
    subst hg'
    subst hx2
    exact ⟨g, 0, LL[i].2, rfl, fun j u hu => by rw [Nat.zero_add]; exact hcc j u hu, (HI2.out LL[i].1 LL[i].2 (List.getElem_mem hiL)).below hb3⟩
  have hsl : ∀ W, (Instr.slice 23 (.slice (some ⟨g, 0, none⟩) (L.length + 1) cap3) none (some (.int .i64 (L.length : Int))) none).run Tryd.prog W = .ok (.slice (some ⟨g, 0, none⟩) L.length cap3) W := by
    intro W
    have hu : Tryd.prog.underlying 23 = some (.slice (Tryd.prog.elem 23)) := by kernel_rfl
    have hsz6 : (sizeOf (Tryd.prog.elem 23)).run Tryd.prog W = .ok 6 W := by kernel_rfl
    rw [run_slice_h (t := 23) (a := some ⟨g, 0, none⟩) (len := L.length + 1) (cap := cap3) (ht := hu) (kh := .i64) (h := (L.length : Int)) (h0 := by omega) (h2 := by omega), hsz6]
    simp only [Result.andThen, sliced, Int.toNat_natCast, Nat.sub_zero, Nat.zero_mul, Option.map_some, Lib.add_plain, Nat.add_zero, ite_self]
  have HM3 := Lib.hid hM3
  have HB3 := Lib.hid hb3
  have hs3 := hb3.size
  have HT1 := Lib.hid (text_all _ L w3 (HV.out.below hb3) hM3 HOk.out hz)
  have hkb : ∀ x ∈ L, x.keep.length ≤ 9223372036854775807 := by
    intro x hx
    have h8 := HKl.out x hx
    unfold stW at h8
    omega
  have HKb := Lib.hid hkb
  have C77 := Lib.hid c77
  clear hM3 hb3 hf3 ho3 hg3 hown3 hc3 hgc c77 hkb hc31 hl3
  go_wp2_with fail
  refine HT1.out.mono ?_
  unfold TextPostS
  rintro e w4 ⟨rfl, hb4⟩
  have HB4 := Lib.hid (HB3.out.trans (hb4.mono hs3))
  have hs4 := HB4.out.size
  have HT2 := Lib.hid (rtext_any _ L w4 (HV.out.below HB4.out) (HM.out.below HB4.out) HOk.out hz)
  have HM4 := Lib.hid (HM3.out.below hb4)
  have C774 := Lib.hid ((hb4.cell (cell_lt C77.out)).trans C77.out)
  clear hb4 HT1
  go_wp2_with fail
  refine HT2.out.mono ?_
  unfold TextPostS
  rintro e w5 ⟨rfl, hb5⟩
  have HB5 := Lib.hid (HB4.out.trans (hb5.mono hs4))
  have hs5 := HB5.out.size
  have HS := Lib.hid (same_any _ _ L w5 (HM4.out.below hb5) (HM.out.below HB5.out) (by omega) HKb.out)
  have C775 := Lib.hid ((hb5.cell (cell_lt C774.out)).trans C774.out)
  generalize textsP L = T
  obtain ⟨s, n, e9⟩ := T
  dsimp only
  have hss : (s.toList == s.toList) = true := beq_self_eq_true _
  have hnn : (n == n) = true := beq_self_eq_true _
  have hee : (e9 == e9) = true := beq_self_eq_true _
  clear hb5 HT2
  go_wp2_with fail
  refine HS.out.mono ?_
  rintro e w6 ⟨rfl, hb6⟩
  have HB6 := Lib.hid (HB5.out.trans (hb6.mono hs5))
  have c6 := (hb6.cell (cell_lt C775.out)).trans C775.out
  clear hb6 HS
  go_wp2_with fail
  go_ret
  exact ⟨rfl, HB6.out⟩
end Go.Proofs.YtffolbdimkhmmaaDoor
