import Derived.Test.YtmejjphliaiamaaDoorNaA
set_option linter.unusedVariables false
set_option linter.unusedSimpArgs false
namespace Go.Proofs.YtmejjphliaiamaaDoor
open Go Go.RowKit Go.Lib Go.Sort

/-! ### the document's Add -/
theorem sigIdx_step (p : SigT → Bool) {L : List SigT} {k : Nat} (h : k < L.length) : sigIdx p k (L.drop k) = if p L[k] = true then (k : Int) else sigIdx p (k + 1) (L.drop (k + 1)) := by
  rw [List.drop_eq_getElem_cons h]
  rfl
def RaRel (y : SigT) (L : List SigT) (w2 : World) (th i : Value) (wr : World) : Prop := ∃ k : Nat, k ≤ L.length ∧ th = .bool false ∧ i = .int .i64 k ∧ sigIdx (idP y) 0 L = sigIdx (idP y) k (L.drop k) ∧ Below w2.heap.size w2 wr

set_option maxRecDepth 100000 in
set_option maxHeartbeats 4000000 in
theorem radd_any (s : ByteArray) (y : SigT) (w : World) (hs : s.size ≤ 50000000) :
    Calls Tryd.prog 18 #[.string s, .agg #[.string y.1, .string y.2]] w fun e w' => e = .returned (.tuple #[.string (addV s y).1, .int .i64 (addV s y).2]) ∧ Below w.heap.size w w' := by
  have HP := Lib.hid (fun W => rread_note s W (by omega))
  have hbd := readP_bd s
  have hav : addV s y = if (readP s).2 = 0 then fmtV (readP s).1.1 (addL (readP s).1.2 y) else (⟨#[]⟩, (readP s).2) := rfl
  generalize addV s y = res at hav
  unfold ReadPost at HP
  generalize readP s = P at HP hbd hav
  obtain ⟨⟨t, L⟩, pe⟩ := P
  obtain ⟨⟨hl, hz⟩, hc⟩ := hbd
  dsimp only at HP hl hz hc hav
  have hk0 : Below w.heap.size w (w.alloc (.cells #[.string y.1, .string y.2] 39)) := (Below.refl _ _).alloc (Nat.le_refl _) _
  have HK0 := Lib.hid hk0
  clear hk0
  rcases hc with ⟨rfl, -⟩ | rfl
  · rw [if_pos rfl] at hav
    have HAv := Lib.hid hav
    have hal := addL_len L y
    clear hav
    go_enter Tryd.func18, Tryd.ntmps18
    go_wp2_with fail
    refine (HP.out _).mono ?_
    rintro e w1 ⟨v, rfl, hO, hb⟩
    have hy1 : w1.heap[w.heap.size]? = some (.cells #[.string y.1, .string y.2] 39 (0, 0)) := blk_later (blk_new _ _) hb
    have hk1 : Below w.heap.size w w1 := HK0.out.trans (hb.mono HK0.out.size)
    have HY1 := Lib.hid hy1
    have HK1 := Lib.hid hk1
    have HO1 := Lib.hid hO
    have hlt1 := (Array.getElem?_eq_some_iff.1 hy1).1
    clear hb hO hy1 hk1 HK0 HP
    obtain ⟨ad, cap, rfl, hsg⟩ := OwnG.sigs HO1.out
    have hn2 : NtAt (w1.alloc (.cells #[.string t, .slice ad L.length cap] 33)) w1.heap.size t (.slice ad L.length cap) := blk_new _ _
    have hk2 := HK1.out.alloc HK1.out.size (.cells #[.string t, .slice ad L.length cap] 33)
    have hA : Below w1.heap.size w1 (w1.alloc (.cells #[.string t, .slice ad L.length cap] 33)) := (Below.refl _ _).alloc (Nat.le_refl _) _
    have hy2 := blk_later HY1.out hA
    have hO2 : OwnG (w1.alloc (.cells #[.string t, .slice ad L.length cap] 33)) _ _ _ := OwnL.alloc HO1.out _
    have hs2 := hsg.below hA
    have hlt2 : (w1.alloc (.cells #[.string t, .slice ad L.length cap] 33)).heap.size = w1.heap.size + 1 := size_alloc _ _
    go_wp2_with fail
    generalize w1.alloc (.cells #[.string t, .slice ad L.length cap] 33) = w2 at hn2 hk2 hy2 hO2 hs2 hlt2 ⊢
    have HN2 := Lib.hid hn2
    have HK2 := Lib.hid hk2
    have HY2 := Lib.hid hy2
    have HO2 := Lib.hid hO2
    have HS2 := Lib.hid hs2
    clear hn2 hk2 hy2 hO2 hs2 hsg hA HY1 HK1 HO1
    go_loopw [8, 9] (fun th i wr => RaRel y L w2 th i wr) (fun _ i _ => L.length - (intOf i).toNat)
    case atStart => exact ⟨0, Nat.zero_le _, rfl, rfl, rfl, Below.refl _ _⟩
    case round =>
      obtain ⟨k, hk, rfl, rfl, hix, hb⟩ := hrel
      have hn3 : NtAt wr w1.heap.size t (.slice ad L.length cap) := blk_later HN2.out hb
      have hy3 := blk_later HY2.out hb
      have HN3 := Lib.hid hn3
      have HK3 := Lib.hid (HK2.out.trans (hb.mono HK2.out.size))
      have HO3 := Lib.hid (show OwnG wr _ _ _ from OwnL.below HO2.out hb)
      have HB3 := Lib.hid hb
      have HIx := Lib.hid hix
      have hs3 := HS2.out.below hb
      have hlt3 := (Array.getElem?_eq_some_iff.1 hn3).1
      have n0 := cell_of_blk hn3 0 (v := .string t) rfl
      have n1 := cell_of_blk hn3 1 (v := .slice ad L.length cap) rfl
      have nf1 := free_of_blk hn3 1
      have y0 := cell_of_blk hy3 0 (v := .string y.1) rfl
      have y1 := cell_of_blk hy3 1 (v := .string y.2) rfl
      clear hb hn3 hy3 hix
      by_cases hlt : k < L.length
      · obtain ⟨pb, po, rfl, s0, s1⟩ := hs3 k L[k] (List.getElem?_eq_getElem hlt)
        have hst := sigIdx_step (idP y) hlt
        have hx1 : ∀ h : k < L.length, L[k] = L[k] := fun _ => rfl
        have hk0 : (0 : Int) ≤ (k : Int) := Int.natCast_nonneg _
        have hk1 : (k : Int) < (L.length : Int) := by omega
        generalize hxx : L[k] = x at s0 s1 hst
        clear hs3 hx1 s1
        obtain ⟨bq, hbq⟩ : ∃ bq, bq = idP y x := ⟨_, rfl⟩
        have heq : (x.1.toList == y.1.toList) = bq := by rw [toList_eqbV, hbq]; rfl
        rw [← hbq] at hst
        have HSt := Lib.hid hst
        clear hst hbq
        have n1r := cell_regrown n1
        have s0r := cell_regrown s0
        have y0r := cell_regrown y0
        go_wp2_with fail
        refine wp_region_quiet_below (by kernel_rfl) (by kernel_rfl) ?_
        repeat quiet_step (fail)
        refine wpQuiet_nil ?_
        intro w5 hw5
        obtain ⟨⟨dq, osq⟩, hw''⟩ := hw5
        have hb5 : Below wr.heap.size wr w5 := by rw [hw'']; exact below_regrown wr dq osq
        have hn5 := blk_later HN3.out hb5
        have hK5 := HK3.out.trans (hb5.mono HK3.out.size)
        have hO5 : OwnG w5 _ _ _ := OwnL.below HO3.out hb5
        have hB5 := HB3.out.trans (hb5.mono HB3.out.size)
        have m0 := cell_of_blk hn5 0 (v := .string t) rfl
        have m1 := cell_of_blk hn5 1 (v := .slice (some ⟨pb, po, none⟩) L.length cap) rfl
        have mf1 := free_of_blk hn5 1
        have z0 := (hb5.cell (p := ⟨w.heap.size, 0, none⟩) (cell_lt y0)).trans y0
        have z1 := (hb5.cell (p := ⟨w.heap.size, 1, none⟩) (cell_lt y1)).trans y1
        have HN5 := Lib.hid hn5
        have HK5 := Lib.hid hK5
        have HO5 := Lib.hid hO5
        have HB5 := Lib.hid hB5
        clear hw'' hb5 n0 n1 nf1 y0 y1 n1r s0r y0r s0 hn5 hK5 hO5 hB5 HN3 HK3 HO3 HB3
        cases bq with
        | false =>
          have HIx2 := Lib.hid (HIx.out.trans (HSt.out.trans (if_neg (by decide))))
          go_wp2_with fail
          refine ⟨⟨k + 1, hlt, rfl, rfl, HIx2.out, HB5.out⟩, ?_⟩
          show L.length - ((k : Int) + 1).toNat < L.length - (k : Int).toNat
          omega
        | true =>
          have hix2 : sigIdx (idP y) 0 L = (k : Int) := HIx.out.trans (HSt.out.trans (if_pos rfl))
          have hadd : addL L y = L.set k y := by unfold addL; rw [hix2, if_pos (Int.natCast_nonneg k), Int.toNat_natCast]
          rw [hadd] at HAv
          obtain ⟨g, cap', he, hg, hrow⟩ := OwnG.rowG HO5.out (by omega)
          obtain ⟨rfl, rfl⟩ : pb = g ∧ po = 0 := by cases he; exact ⟨rfl, rfl⟩
          have hgl : w.heap.size + 1 ≤ pb := by rw [size_alloc] at hg; exact hg
          have hgn : pb ≠ w1.heap.size := by
            rintro rfl
            obtain ⟨cur, h1, -⟩ := hrow
            have h2 := HN5.out
            rw [h1] at h2
            cases h2
          obtain ⟨⟨g0, g1⟩, gf0, gf1⟩ := hrow.writes hlt
          have hset := hrow.set k y hlt
          have hk9 : Kp (fun k => k = pb) w5 ((w5.setCell ⟨pb, k * 2, none⟩ (.string y.1)).setCell ⟨pb, k * 2 + 1, none⟩ (.string y.2)) := ((Kp.refl (fun k => k = pb) w5).setCell (p := ⟨pb, k * 2, none⟩) (.inl rfl) _).setCell (p := ⟨pb, k * 2 + 1, none⟩) (.inl rfl) _
          have hn9 := blk_kp HN5.out hk9 (Ne.symm hgn)
          have hK9 : Below w.heap.size w _ := HK5.out.trans (hk9.toBelow (by have := HK5.out.size; omega) (fun j hj => by omega))
          have hll : (L.set k y).length = L.length := List.length_set
          have hF := rformat_any t (some ⟨pb, 0, none⟩) (L.set k y) cap _ (by omega) (by omega) hset.sigs
          rw [hll, ← HAv.out] at hF
          have HF := Lib.hid hF
          have HK9 := Lib.hid hK9
          have q0 := cell_of_blk hn9 0 (v := .string t) rfl
          have q1 := cell_of_blk hn9 1 (v := .slice (some ⟨pb, 0, none⟩) L.length cap) rfl
          clear hg hrow hset hk9 hn9 hK9 hF hll hadd he hix2 HO5 HK5 HN5 HB5 HAv HIx HSt heq
          go_wp2_with fail
          refine HF.out.mono ?_
          rintro e w9 ⟨rfl, hb⟩
          have HKz := Lib.hid (HK9.out.trans (hb.mono HK9.out.size))
          clear hb
          go_wp2_with fail
          go_ret2
          exact ⟨rfl, HKz.out⟩
      · obtain rfl : k = L.length := by omega
        have hadd : addL L y = L ++ [y] := by
          unfold addL
          rw [HIx.out, List.drop_length]
          exact if_neg (by show ¬ (0 : Int) ≤ -1; decide)
        rw [hadd] at HAv
        have hll : (L ++ [y]).length = L.length + 1 := by rw [List.length_append]; rfl
        clear hadd HIx hs3 HB3
        obtain ⟨i0, hinf, hz0, hz1, hz2⟩ := info_parts infoSig
        have HI2 := Lib.hid hz2
        clear hz2
        go_wp2_with (first | (at_builtin; refine wpList_appL _ rfl _ _ 31 rfl i0 (.agg #[.string ⟨#[]⟩, .string ⟨#[]⟩]) 32 Tryd.underlying31 hinf hz0 hz1 HI2.out rfl (by decide) _ (.slice ad L.length cap) L rfl (OwnL.alloc HO3.out _) y rfl ⟨wr.heap.size, 0, none⟩ 1 rfl (one_sig wr y _) ?_ ?_ (by decide) ?_ ?_) | fail)
        · intro u hu
          simp at hu
          rcases hu with rfl | rfl <;> rfl
        · omega
        · rw [size_alloc, size_alloc]; omega
        intro v5 w5 ho5 hg5 hown5
        obtain ⟨ao5, cap5, rfl, -, -, -⟩ := OwnL.form ho5
        have hown4 := OwnL.lt HO3.out
        have hk5 : Kp (fun k => (Value.slice ad L.length cap).ownBlock = some k) wr w5 := ((Kp.refl (fun k => (Value.slice ad L.length cap).ownBlock = some k) wr).alloc _).grown hg5 (fun k h => .inl h)
        have hgn : (Value.slice ad L.length cap).ownBlock ≠ some w1.heap.size := by
          intro h
          rcases HO3.out.2 with ⟨h2, _⟩ | ⟨g', cap', cur, hv, hb, hh, r⟩
          · rw [h2] at h; cases h
          · rw [hv] at h
            obtain rfl : g' = w1.heap.size := Option.some.inj h
            have h2 := HN3.out
            rw [NtAt, hh] at h2
            cases h2
        have hn5 := blk_kp HN3.out hk5 hgn
        have hK5 : Below w.heap.size w w5 := HK3.out.trans (hk5.toBelow (by have := HK3.out.size; omega) (fun k h => by have := (hown4 _ h).1; rw [size_alloc] at this; omega))
        have m0 := cell_of_blk hn5 0 (v := .string t) rfl
        have m1 := cell_of_blk hn5 1 (v := .slice ad L.length cap) rfl
        have mf1 := free_of_blk hn5 1
        have hk9 : Kp (fun k => k = w1.heap.size) w5 (w5.setCell ⟨w1.heap.size, 1, none⟩ (.slice ao5 (L ++ [y]).length cap5)) := (Kp.refl (fun k => k = w1.heap.size) w5).setCell (p := ⟨w1.heap.size, 1, none⟩) (.inl rfl) _
        have hgn5 : ∀ g, (Value.slice ao5 (L ++ [y]).length cap5).ownBlock = some g → g ≠ w1.heap.size := by
          intro g hg e
          rcases hown5 with h | h
          · rw [hg, e] at h; exact hgn h.symm
          · rw [hg, e] at h
            have := Option.some.inj h
            omega
        have hs9 := (OwnG.sigs (show OwnG _ _ _ _ from OwnL.kp ho5 hk9 hgn5))
        obtain ⟨ad9, cap9, he9, hs9⟩ := hs9
        obtain ⟨rfl, rfl⟩ : ao5 = ad9 ∧ cap5 = cap9 := by cases he9; exact ⟨rfl, rfl⟩
        have hK9 : Below w.heap.size w _ := hK5.trans (hk9.toBelow (by have := hK5.size; omega) (fun j hj => by omega))
        have hF := rformat_any t ao5 (L ++ [y]) cap5 _ (by omega) (by omega) hs9
        rw [← HAv.out] at hF
        rw [hll] at hF hK9 ⊢
        have HF := Lib.hid hF
        have HK9 := Lib.hid hK9
        clear hk9 hgn5 hs9 he9 hK9 hF hn5 hK5 hgn hk5 hown4 ho5 hg5 hown5 hinf hz0 hz1 n0 n1 nf1 y0 y1 hll HAv
        go_wp2_with fail
        refine HF.out.mono ?_
        rintro e w9 ⟨rfl, hb⟩
        have HKz := Lib.hid (HK9.out.trans (hb.mono HK9.out.size))
        clear hb
        go_wp2_with fail
        go_ret2
        exact ⟨rfl, HKz.out⟩
  · rw [if_neg (by decide)] at hav
    have HAv := Lib.hid hav
    clear hav
    go_enter Tryd.func18, Tryd.ntmps18
    go_wp2_with fail
    refine (HP.out _).mono ?_
    rintro e w1 ⟨v, rfl, hO, hb⟩
    have hk1 : Below w.heap.size w w1 := HK0.out.trans (hb.mono HK0.out.size)
    have HK1 := Lib.hid hk1
    obtain ⟨ad, cap, rfl, -⟩ := OwnG.sigs hO
    clear hb hO hk1
    go_wp2_with fail
    go_ret2
    rw [HAv.out]
    exact ⟨rfl, HK1.out.alloc HK1.out.size _⟩
end Go.Proofs.YtmejjphliaiamaaDoor
