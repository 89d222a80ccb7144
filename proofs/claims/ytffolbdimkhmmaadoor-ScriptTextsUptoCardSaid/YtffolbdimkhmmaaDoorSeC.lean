import Derived.Test.YtffolbdimkhmmaaDoorSeA
import Derived.Test.YtffolbdimkhmmaaDoorSeB
import Derived.Test.YtffolbdimkhmmaaDoorScY
set_option linter.unusedVariables false
set_option linter.unusedSimpArgs false
namespace Go.Proofs.YtffolbdimkhmmaaDoor
open Go Go.RowKit Go.Lib

/-! ### what is written is read -/
theorem stW_mem : ∀ (L : List StP), ∀ x ∈ L, stW x ≤ stsW L
  | [], x, h => by cases h
  | y :: r, x, h => by
    rw [stsW]
    rcases List.mem_cons.1 h with rfl | h
    · omega
    · have := stW_mem r x h; omega
theorem sts_len : ∀ (L : List StP), 200 * L.length ≤ stsW L
  | [] => Nat.le_refl _
  | y :: r => by
    have := sts_len r
    rw [stsW, List.length_cons]
    unfold stW
    omega
theorem texts_len (L : List StP) : (textsP L).1.size ≤ 65536 := by
  unfold textsP
  generalize tellsP 0 L ⟨#[]⟩ = t
  obtain ⟨b, n, e⟩ := t
  simp only []
  split
  · exact Nat.zero_le _
  · split
    · exact Nat.zero_le _
    · rename_i h; show b.size ≤ _; omega
theorem bare_fold_keep (x : StP) : ∀ (pl : List UInt8) (o : StP), o.keep.length ≤ x.keep.length → (pl.foldl (fun o c => bareC c x o) o).keep.length ≤ x.keep.length
  | [], o, h => h
  | c :: pl, o, h => by
    rw [List.foldl_cons]
    refine bare_fold_keep x pl _ ?_
    unfold bareC
    split
    · exact h
    · split
      · exact Nat.le_refl _
      · split
        · exact h
        · split
          · exact h
          · exact h
theorem bare_keep (x : StP) : (bareP x).keep.length ≤ x.keep.length := by
  unfold bareP
  split
  · exact Nat.zero_le _
  · exact bare_fold_keep x _ _ (Nat.zero_le _)
theorem OwnSt.readM {w : World} {base : Nat} {v : Value} {L : List (StP × Value)} (h : OwnSt w base v L) (hk : ∀ x ∈ L, IntsM w x.2 x.1.keep) : StM w v (L.map (·.1)) := by
  obtain ⟨ad, cap, hv, h1, h2, hc⟩ := own_cells (size := 6) (fun _ => rfl) (by decide) h
  refine ⟨ad, cap, by rw [List.length_map]; exact hv, by rw [List.length_map]; exact h1, h2, fun i x hx => ?_⟩
  rw [List.getElem?_map] at hx
  obtain ⟨y, hy, rfl⟩ := Option.map_eq_some_iff.1 hx
  obtain ⟨g, hg, hcc⟩ := hc i y hy
  exact ⟨g, 0, y.2, hg, fun j u hu => by rw [Nat.zero_add]; exact hcc j u hu, hk y (List.mem_of_getElem? hy)⟩
def WtRel (L : List StP) (w : World) (v i : Value) (wr : World) : Prop :=
  ∃ (k : Nat) (D : List (StP × Value)), k ≤ L.length ∧ i = .int .i64 k ∧ D.length = k ∧ D.map (·.1) = (L.take k).map bareP ∧ OwnSt wr w.heap.size v D ∧ (∀ x ∈ D, IntsM w x.2 x.1.keep) ∧ Below w.heap.size w wr ∧ w.heap.size ≤ wr.heap.size
set_option maxRecDepth 100000 in
set_option maxHeartbeats 4000000 in
theorem back_any (v : Value) (L : List StP) (text : ByteArray) (w : World) (hV : VarsV w) (hM : StM w v L) (hok : ∀ x ∈ L, okS x) (hz : stsW L ≤ 2000000000) (ht : text.size ≤ 100000000) :
    Calls Tryd.prog 5 #[v, .string text] w fun e w' => e = .returned (.bool true) ∧ Below w.heap.size w w' := by
  have hlen := sts_len L
  have HR := Lib.hid (reads_any w hV)
  have HV := Lib.hid hV
  have HM := Lib.hid hM
  have HOk := Lib.hid hok
  have HKl := Lib.hid (fun x (hx : x ∈ L) => stW_mem L x hx)
  obtain ⟨ad, cap, rfl, hcap1, hcap2, -⟩ := id hM
  clear hV hM hok
  go_enter Tryd.func5, Tryd.ntmps5
  go_wp2_with fail
  refine HR.out.mono ?_
  rintro e w1 ⟨rfl, hb1⟩
  have HT := Lib.hid (text_all (.slice ad L.length cap) L w1 (HV.out.below hb1) (HM.out.below hb1) HOk.out hz)
  have HB1 := Lib.hid hb1
  clear hb1 HR
  go_wp2_with fail
  refine HT.out.mono ?_
  have htl := texts_len L
  have hpt := fun h0 => parse_texts L (fun x hx => (HOk.out x hx).1) h0
  have htb := texts_bad L
  unfold TextPostS
  generalize textsP L = T at htl hpt htb ⊢
  obtain ⟨s, n, e9⟩ := T
  dsimp only at htl hpt htb ⊢
  rintro e w2 ⟨rfl, hb2⟩
  have HB2 := Lib.hid (HB1.out.trans (hb2.mono HB1.out.size))
  have HPT := Lib.hid hpt
  have HTB := Lib.hid htb
  have hsz2 := HB2.out.size
  clear hb2 hpt htb HT
  go_upto_if 31 with fail
  go_cut [7] (fun x7 wx => (∃ i, x7 = .int .i64 i) ∧ Below w.heap.size w wx)
  case first =>
    by_cases h0 : e9 = 0
    · obtain ⟨r, hp1, hp2⟩ := HPT.out h0
      subst h0
      have HP1 := Lib.hid hp1
      have HP2 := Lib.hid hp2
      clear hp1 hp2
      go_wp2_with fail
      go_loopw [8, 34] (fun v i wr => WtRel L w2 v i wr) (fun _ i _ => L.length - (intOf i).toNat)
      case atStart => exact ⟨0, [], Nat.zero_le _, rfl, rfl, rfl, ownL_nil _ _, fun x hx => (by cases hx), Below.refl _ _, Nat.le_refl _⟩
      case round =>
        obtain ⟨k, D, hk, rfl, hdl, hD, hO, hI, hB, hsz⟩ := hrel
        have HO := Lib.hid hO
        have HI := Lib.hid hI
        have HD := Lib.hid hD
        have HB := Lib.hid hB
        have HDL := Lib.hid hdl
        clear hD hO hI hB hdl
        by_cases hlt : k < L.length
        · obtain ⟨x, hx⟩ : ∃ x, L[k]? = some x := ⟨_, List.getElem?_eq_getElem hlt⟩
          obtain ⟨ad2, cap2, hv2, -, -, hc⟩ := HM.out.below HB2.out
          injection hv2 with hv2 _ hv3
          obtain ⟨pb, po, kv, hpa, hcc0, hkv⟩ := hc k x hx
          rw [hpa] at hv2
          subst hv2
          obtain ⟨kad, kcap, rfl, -⟩ := id hkv
          have hcc : ∀ j u, (stepL (x, .slice kad x.keep.length kcap))[j]? = some u → wr.cell? ⟨pb, po + k * 6 + j, none⟩ = some u := fun j u hu => (HB.out.cell (cell_lt (hcc0 j u hu))).trans (hcc0 j u hu)
          have c0 : wr.cell? ⟨pb, po + k * 6, none⟩ = some (.int .i64 x.kind) := hcc 0 _ rfl
          have c1 := hcc 1 _ rfl
          have c2 := hcc 2 _ rfl
          have c3 := hcc 3 _ rfl
          have c4 := hcc 4 _ rfl
          have c5 := hcc 5 _ rfl
          have hk0 : (0 : Int) ≤ (k : Int) := Int.natCast_nonneg _
          have hk1 : (k : Int) < (L.length : Int) := by omega
          have HBare := Lib.hid (bare_any w2 x (.slice kad x.keep.length kcap) (wr.alloc (.cells (stepA x (.slice kad x.keep.length kcap)) TSt)) hkv)
          have hnew : (L.take k).map bareP ++ [bareP x] = (L.take (k + 1)).map bareP := by rw [List.take_add_one, hx, List.map_append]; rfl
          have HN := Lib.hid hnew
          clear hc hcc hcc0 hkv hpa hv3 hx hnew
          go_wp2_with fail
          refine HBare.out.mono ?_
          rintro e w5 ⟨kv5, rfl, hI5, hb5⟩
          obtain ⟨bad, bcap, rfl, -⟩ := id hI5
          have HI5 := Lib.hid hI5
          have hO5 : OwnSt w5 w2.heap.size u8 D := (OwnL.alloc HO.out _).below hb5
          have hsA : (wr.alloc (.cells (stepA x (.slice kad x.keep.length kcap)) TSt)).heap.size = wr.heap.size + 1 := size_alloc _ _
          have hB5 : Below w2.heap.size w2 w5 := (HB.out.alloc hsz _).trans (hb5.mono (by omega))
          have hs5 : w2.heap.size ≤ w5.heap.size := by have := hb5.size; omega
          have HO5 := Lib.hid hO5
          have HB5 := Lib.hid hB5
          generalize bareP x = y at HI5 HN ⊢
          unfold stepA
          have hdl : D.length ≤ 20000000 := by rw [HDL.out]; omega
          obtain ⟨i0, hi, hz0, hz1, hz2⟩ := info_parts infoSt
          have HI2 := Lib.hid hz2
          clear hz2 hI5 hb5 hO5 hB5 HBare hsA c0 c1 c2 c3 c4 c5
          go_wp2_with (first | (at_builtin; refine wpList_appL _ rfl _ _ 23 rfl i0 (.agg #[.int .i64 0, .int .i64 0, .int .i64 0, .int .i64 0, .string ⟨#[]⟩, .slice none 0 0]) 72 Tryd.underlying23 hi hz0 hz1 HI2.out rfl (by decide) w2.heap.size _ D rfl (OwnL.alloc HO5.out _) (y, .slice bad y.keep.length bcap) rfl ⟨w5.heap.size, 0, none⟩ 1 rfl ?_ ?_ ?_ (by decide) ?_ ?_) | fail)
          · first | exact fun j u h => h | (intro j u hu; rw [Lib.add_plain, Nat.zero_add]; exact cell_of_blk (blk_new w5 _) j (by first | exact hu | simpa [stepL] using hu))
          · intro u hu
            simp only [stepL, List.mem_cons, List.not_mem_nil, or_false] at hu
            rcases hu with rfl | rfl | rfl | rfl | rfl | rfl <;> rfl
          · omega
          · first | omega | (rw [size_alloc]; omega)
          intro v4 w4 ho4 hg4 hown4
          have HF := Lib.hid (And.intro ho4 (below_appS HB5.out HO5.out hs5 _ hg4))
          clear ho4 hg4 hown4 hdl
          go_wp2_with fail
          refine ⟨⟨k + 1, D ++ [(y, Value.slice bad y.keep.length bcap)], hlt, rfl, by rw [List.length_append, HDL.out]; rfl, by rw [List.map_append, HD.out]; exact HN.out, HF.out.1, fun z hz => ?_, HF.out.2.1, HF.out.2.2⟩, ?_⟩
          · rcases List.mem_append.1 hz with hz | hz
            · exact HI.out z hz
            · rw [List.mem_singleton.1 hz]; exact HI5.out
          · show L.length - ((k : Int) + 1).toNat < L.length - (k : Int).toNat
            omega
        · obtain rfl : k = L.length := by omega
          have hHs := HB2.out.trans (HB.out.mono hsz2)
          have hBr := HB.out
          have hPs := sparse_any s wr (by omega) (HV.out.below hHs)
          unfold StepsPost at hPs
          rw [HP1.out] at hPs
          dsimp only at hPs
          have HPs := Lib.hid hPs
          have HHs := Lib.hid hHs
          have hM8 : StM wr u8 (L.map bareP) := by
            have h9 := OwnSt.readM HO.out (fun x hx => (HI.out x hx).below hBr)
            rw [HD.out, List.take_length] at h9
            exact h9
          have HM8 := Lib.hid hM8
          have hkb : ∀ x ∈ L.map bareP, x.keep.length ≤ 9223372036854775807 := by
            intro x hx
            obtain ⟨y, hy, rfl⟩ := List.mem_map.1 hx
            have h9 := bare_keep y
            have h8 := HKl.out y hy
            unfold stW at h8
            omega
          have HKb := Lib.hid hkb
          have hsr := HHs.out.size
          clear hHs hBr hPs hM8 hkb
          go_wp2_with fail
          refine HPs.out.mono ?_
          rintro e w6 ⟨v6, rfl, hS6, hl6, hb6⟩
          rw [HP2.out] at hS6
          have hHs6 := HHs.out.trans (hb6.mono hsr)
          have hM6 := HM8.out.below hb6
          have hSm := same_any v6 u8 (L.map bareP) w6 hS6 hM6 (by rw [List.length_map]; omega) HKb.out
          obtain ⟨xa, xc, rfl, -⟩ := id hS6
          obtain ⟨ya, yc, rfl, -⟩ := id hM6
          have HSm := Lib.hid hSm
          have HH6 := Lib.hid hHs6
          rw [List.length_map] at *
          clear hS6 hM6 hSm hHs6 hb6 hl6
          go_wp2_with fail
          refine HSm.out.mono ?_
          rintro e w7 ⟨rfl, hb7⟩
          have HH7 := Lib.hid (HH6.out.trans (hb7.mono HH6.out.size))
          clear hb7
          go_wp2_with fail
          go_meet
          exact ⟨⟨_, rfl⟩, HH7.out⟩
    · have hs := HTB.out h0
      subst hs
      have h0b : (e9 == 0) = false := beq_eq_false_iff_ne.2 h0
      go_wp2_with fail
      go_meet
      exact ⟨⟨_, rfl⟩, HB2.out⟩
  case rest =>
    obtain ⟨⟨i7, rfl⟩, hBx⟩ := hcut
    have HBx := Lib.hid hBx
    have hPs := sparse_any text wc (by omega) (HV.out.below hBx)
    have hbad := parse_bad text
    have hback := parse_back text
    have hkind := parse_kind text
    have hsize := parse_size text
    unfold StepsPost at hPs
    generalize parseP text = P at hPs hbad hback hkind hsize
    obtain ⟨R, n1, e1⟩ := P
    dsimp only at hPs hbad hback hkind hsize
    have HPs := Lib.hid hPs
    have HBad := Lib.hid hbad
    have HBack := Lib.hid hback
    have HKind := Lib.hid hkind
    have hszx := hBx.size
    clear hPs hbad hback hkind hBx
    go_wp2_with fail
    refine HPs.out.mono ?_
    rintro e w6 ⟨v6, rfl, hS6, hl6, hb6⟩
    obtain ⟨xa, xc, rfl, -⟩ := id hS6
    have hlm : (R.map (·.1)).length = R.length := List.length_map _
    rw [hlm] at hS6 hl6 ⊢
    have HS6 := Lib.hid hS6
    have HB6 := Lib.hid (HBx.out.trans (hb6.mono hszx))
    have hs6 := HB6.out.size
    clear hS6 hb6 HPs hlm
    by_cases h1 : e1 = 0
    · subst h1
      have hTx := text_all (.slice xa R.length xc) (R.map (·.1)) w6 (HV.out.below HB6.out) HS6.out (fun x hx => by
        obtain ⟨y, hy, rfl⟩ := List.mem_map.1 hx
        exact HKind.out y hy) hsize
      unfold TextPostS at hTx
      have htl2 := texts_len (R.map (·.1))
      have hback := HBack.out
      have hkb : ∀ x ∈ R.map (·.1), x.keep.length ≤ 9223372036854775807 := by
        intro x hx
        have h8 := stW_mem _ x hx
        unfold stW at h8
        omega
      have HKb := Lib.hid hkb
      generalize textsP (R.map (·.1)) = T2 at hTx htl2 hback
      obtain ⟨t, n2, f2⟩ := T2
      dsimp only at hTx htl2 hback
      have HTx := Lib.hid hTx
      have HBack2 := Lib.hid hback
      clear hTx hback HBack hkb
      go_wp2_with fail
      refine HTx.out.mono ?_
      rintro e w7 ⟨rfl, hb7⟩
      have HB7 := Lib.hid (HB6.out.trans (hb7.mono hs6))
      have HS7 := Lib.hid (HS6.out.below hb7)
      clear hb7 HTx HS6
      rcases HBack2.out with ⟨hf, htn⟩ | ⟨hf, hp1, hp2⟩
      · subst hf
        subst htn
        go_wp2_with fail
        go_ret
        exact ⟨rfl, HB7.out⟩
      · subst hf
        have hs7 := HB7.out.size
        have hPs := sparse_any t w7 (by omega) (HV.out.below HB7.out)
        unfold StepsPost at hPs
        rw [hp1, hp2] at hPs
        have HPs := Lib.hid hPs
        clear hp1 hp2 hPs HBack2
        generalize (parseP t).2.1 = n3 at HPs
        go_wp2_with fail
        refine HPs.out.mono ?_
        rintro e w8 ⟨v8, rfl, hS8, hl8, hb8⟩
        have hSm := same_any (.slice xa R.length xc) v8 (R.map (·.1)) w8 (HS7.out.below hb8) hS8 (by rw [List.length_map]; omega) HKb.out
        have HSm := Lib.hid hSm
        have HB8 := Lib.hid (HB7.out.trans (hb8.mono hs7))
        have hs8 := HB8.out.size
        clear hSm hS8 hb8 hl8 HPs
        go_wp2_with fail
        refine HSm.out.mono ?_
        rintro e w9 ⟨rfl, hb9⟩
        have HB9 := Lib.hid (HB8.out.trans (hb9.mono hs8))
        clear hb9
        go_wp2_with fail
        go_ret
        exact ⟨rfl, HB9.out⟩
    · have hR := HBad.out h1
      subst hR
      have h1b : (e1 == 0) = false := beq_eq_false_iff_ne.2 h1
      go_wp2_with fail
      go_ret
      exact ⟨rfl, HB6.out⟩
end Go.Proofs.YtffolbdimkhmmaaDoor
