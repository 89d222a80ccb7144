import Derived.Test.YtmejjphliaiamaaDoorNoZ
set_option linter.unusedVariables false
set_option linter.unusedSimpArgs false
namespace Go.Proofs.YtmejjphliaiamaaDoor
open Go Go.RowKit Go.Lib Go.Sort

/-! ### a signature laid behind a note's others, or in its place -/
def idP (y : SigT) (x : SigT) : Bool := decide (x.1 = y.1)
def addL (L : List SigT) (y : SigT) : List SigT := if 0 ≤ sigIdx (idP y) 0 L then L.set (sigIdx (idP y) 0 L).toNat y else L ++ [y]
def addV (s : ByteArray) (y : SigT) : ByteArray × Int := if (readP s).2 = 0 then fmtV (readP s).1.1 (addL (readP s).1.2 y) else (⟨#[]⟩, (readP s).2)
theorem sigIdx_lt (p : SigT → Bool) : ∀ (l : List SigT) (k : Nat), 0 ≤ sigIdx p k l → (k : Int) ≤ sigIdx p k l ∧ sigIdx p k l < k + l.length
  | [], k, h => by unfold sigIdx at h; omega
  | x :: r, k, h => by
    unfold sigIdx at h ⊢
    split
    · rw [List.length_cons]; omega
    · rename_i hp
      rw [if_neg hp] at h
      have := sigIdx_lt p r (k + 1) h
      rw [List.length_cons]
      omega
theorem addL_len (L : List SigT) (y : SigT) : (addL L y).length ≤ L.length + 1 := by
  unfold addL
  split
  · rw [List.length_set]; omega
  · rw [List.length_append]; simp

def RowG (w : World) (g : Nat) (L : List SigT) : Prop := ∃ cur, w.heap[g]? = some (.cells cur 39 (0, 0)) ∧ ∀ i f, L[i]? = some f → cur[i * 2]? = some (.string f.1) ∧ cur[i * 2 + 1]? = some (.string f.2)
theorem RowG.sigs {w : World} {g : Nat} {L : List SigT} (h : RowG w g L) : SigsM w (some ⟨g, 0, none⟩) L := by
  obtain ⟨cur, hb, hc⟩ := h
  intro i f hf
  obtain ⟨h1, h2⟩ := hc i f hf
  exact ⟨g, 0, rfl, by rw [Nat.zero_add]; exact cell_of_blk hb _ h1, by rw [Nat.zero_add]; exact cell_of_blk hb _ h2⟩
theorem RowG.set {w : World} {g : Nat} {L : List SigT} (h : RowG w g L) (i : Nat) (y : SigT) (hi : i < L.length) : RowG ((w.setCell ⟨g, i * 2, none⟩ (.string y.1)).setCell ⟨g, i * 2 + 1, none⟩ (.string y.2)) g (L.set i y) := by
  obtain ⟨cur, hb, hc⟩ := h
  obtain ⟨g1, g2⟩ := hc i L[i] (List.getElem?_eq_getElem hi)
  have z2 := (Array.getElem?_eq_some_iff.1 g2).1
  refine ⟨_, blk_set (blk_set hb _) _, fun j f hf => ?_⟩
  by_cases hj : j = i
  · subst hj
    rw [List.getElem?_set_self hi] at hf
    obtain rfl := Option.some.inj hf
    refine ⟨?_, ?_⟩
    · rw [Array.getElem?_setIfInBounds_ne (by omega), Array.getElem?_setIfInBounds_self_of_lt (by omega)]
    · rw [Array.getElem?_setIfInBounds_self_of_lt (by rw [Array.size_setIfInBounds]; omega)]
  · rw [List.getElem?_set_ne (Ne.symm hj)] at hf
    obtain ⟨h1, h2⟩ := hc j f hf
    refine ⟨?_, ?_⟩
    · rw [Array.getElem?_setIfInBounds_ne (by omega), Array.getElem?_setIfInBounds_ne (by omega)]; exact h1
    · rw [Array.getElem?_setIfInBounds_ne (by omega), Array.getElem?_setIfInBounds_ne (by omega)]; exact h2
theorem RowG.later {w w' : World} {g : Nat} {L : List SigT} (h : RowG w g L) (k : Below w.heap.size w w') : RowG w' g L := by
  obtain ⟨cur, hb, hc⟩ := h
  exact ⟨cur, blk_later hb k, hc⟩
theorem RowG.writes {w : World} {g : Nat} {L : List SigT} (h : RowG w g L) {i : Nat} (hi : i < L.length) : (w.cell? ⟨g, i * 2, none⟩ = some (.string L[i].1) ∧ w.cell? ⟨g, i * 2 + 1, none⟩ = some (.string L[i].2)) ∧ w.frozen? ⟨g, i * 2, none⟩ = false ∧ w.frozen? ⟨g, i * 2 + 1, none⟩ = false := by
  obtain ⟨cur, hb, hc⟩ := h
  obtain ⟨h1, h2⟩ := hc i L[i] (List.getElem?_eq_getElem hi)
  exact ⟨⟨cell_of_blk hb _ h1, cell_of_blk hb _ h2⟩, free_of_blk hb _, free_of_blk hb _⟩
theorem OwnG.rowG {w : World} {base : Nat} {v : Value} {L : List SigT} (h : OwnG w base v L) (hp : 0 < L.length) : ∃ g cap, v = .slice (some ⟨g, 0, none⟩) L.length cap ∧ base ≤ g ∧ RowG w g L := by
  rcases h.2 with ⟨hv2, h0⟩ | ⟨g, cap, cur, hv, hb, hh, hc, hm, hz, ht⟩
  · omega
  · refine ⟨g, cap, hv, hb, cur, hh, fun i f hf => ?_⟩
    obtain ⟨e1, e2⟩ := flat2_get L i f hf
    have hi := (List.getElem?_eq_some_iff.1 hf).1
    have e : ∀ j, j < L.length * 2 → cur[j]? = (L.flatMap (fun x : SigT => [Value.string x.1, Value.string x.2]))[j]? := fun j hj => by
      rw [← ht, List.getElem?_take, if_pos hj, Array.getElem?_toList]
    exact ⟨by rw [e _ (by omega)]; exact e1, by rw [e _ (by omega)]; exact e2⟩

set_option maxRecDepth 100000 in
theorem addf_any (x y : SigT) (b : Nat) (w : World) (hc : w.cell? ⟨b, 0, none⟩ = some (.string y.1)) :
    Calls Tryd.prog 41 #[.agg #[.string x.1, .string x.2], .pointer (some ⟨b, 0, none⟩)] w fun e w' => e = .returned (.bool (idP y x)) ∧ Below w.heap.size w w' := by
  have hK : ∀ o, Below w.heap.size w (w.alloc o) := fun o => (Below.refl _ _).alloc (Nat.le_refl _) o
  have hca := fun o => cell_alloc hc o
  unfold idP
  by_cases h : x.1 = y.1
  · have h1 : (x.1.toList == y.1.toList) = true := by rw [toList_eqbV]; exact decide_eq_true h
    rw [decide_eq_true h]
    clear h
    go_enter Tryd.func41, Tryd.ntmps41
    go_wp2_with fail
    go_ret
    exact ⟨rfl, hK _⟩
  · have h1 : (x.1.toList == y.1.toList) = false := by rw [toList_eqbV]; exact decide_eq_false h
    rw [decide_eq_false h]
    clear h
    go_enter Tryd.func41, Tryd.ntmps41
    go_wp2_with fail
    go_ret
    exact ⟨rfl, hK _⟩
theorem enter_add : ∀ args w, (callFunc 41 args).run Tryd.prog w = .ok (.enter 41 args) w := fun args w => by kernel_rfl

set_option maxRecDepth 100000 in
set_option maxHeartbeats 2000000 in
theorem add_any (s : ByteArray) (y : SigT) (w : World) (hs : s.size ≤ 50000000) (hV : VarsV w) :
    Calls Tryd.prog 17 #[.string s, .agg #[.string y.1, .string y.2]] w fun e w' => e = .returned (.tuple #[.string (addV s y).1, .int .i64 (addV s y).2]) ∧ Below w.heap.size w w' := by
  have HV := Lib.hid hV
  have HP := Lib.hid (fun W hW => read_note s W (by omega) hW)
  have hbd := readP_bd s
  have hav : addV s y = if (readP s).2 = 0 then fmtV (readP s).1.1 (addL (readP s).1.2 y) else (⟨#[]⟩, (readP s).2) := rfl
  generalize addV s y = res at hav
  unfold ReadPost at HP
  generalize readP s = P at HP hbd hav
  obtain ⟨⟨t, L⟩, pe⟩ := P
  obtain ⟨⟨hl, hz⟩, hc⟩ := hbd
  dsimp only at HP hl hz hc hav
  have hk0 : Below w.heap.size w (w.alloc (.cells #[.string y.1, .string y.2] 39)) := (Below.refl _ _).alloc (Nat.le_refl _) _
  have HK0 := Lib.hid hk0
  clear hV hk0
  rcases hc with ⟨rfl, -⟩ | rfl
  · rw [if_pos rfl] at hav
    have HAv := Lib.hid hav
    have hal := addL_len L y
    clear hav
    go_enter Tryd.func17, Tryd.ntmps17
    go_wp2_with fail
    refine (HP.out _ (HV.out.below HK0.out)).mono ?_
    rintro e w1 ⟨v, rfl, hO, hb⟩
    have hy1 : w1.heap[w.heap.size]? = some (.cells #[.string y.1, .string y.2] 39 (0, 0)) := blk_later (blk_new _ _) hb
    have hk1 : Below w.heap.size w w1 := HK0.out.trans (hb.mono HK0.out.size)
    have HY1 := Lib.hid hy1
    have HK1 := Lib.hid hk1
    have HO1 := Lib.hid hO
    have hlt1 := (Array.getElem?_eq_some_iff.1 hy1).1
    clear hb hO hy1 hk1 HK0 HP
    obtain ⟨ad, cap, rfl, hsg⟩ := OwnG.sigs HO1.out
    have hn2 : NtAt (w1.alloc (.cells #[.string t, .slice ad L.length cap] 33)) w1.heap.size t (.slice ad L.length cap) := blk_new _ _
    have hk2 := HK1.out.alloc HK1.out.size (.cells #[.string t, .slice ad L.length cap] 33)
    have hA : Below w1.heap.size w1 (w1.alloc (.cells #[.string t, .slice ad L.length cap] 33)) := (Below.refl _ _).alloc (Nat.le_refl _) _
    have hy2 := blk_later HY1.out hA
    have hO2 : OwnG (w1.alloc (.cells #[.string t, .slice ad L.length cap] 33)) _ _ _ := OwnL.alloc HO1.out _
    have hs2 := hsg.below hA
    have hlt2 : (w1.alloc (.cells #[.string t, .slice ad L.length cap] 33)).heap.size = w1.heap.size + 1 := size_alloc _ _
    have n1 := cell_of_blk hn2 1 (v := .slice ad L.length cap) rfl
    have HI := Lib.hid (sigidx_any 41 #[.pointer (some ⟨w.heap.size, 0, none⟩)] enter_add (idP y) ad L cap _ hs2 (by omega) (fun W x hW => addf_any x y w.heap.size W (cell_of_blk (blk_later hy2 hW) 0 rfl)))
    go_wp2_with fail
    generalize w1.alloc (.cells #[.string t, .slice ad L.length cap] 33) = w2 at hn2 hk2 hy2 hO2 hs2 hlt2 n1 HI ⊢
    have HN2 := Lib.hid hn2
    have HK2 := Lib.hid hk2
    have HY2 := Lib.hid hy2
    have HO2 := Lib.hid hO2
    clear hn2 hk2 hy2 hO2 hs2 n1 hsg hA HY1 HK1 HO1
    refine HI.out.mono ?_
    rintro e w3 ⟨rfl, hb⟩
    have hn3 : NtAt w3 w1.heap.size t (.slice ad L.length cap) := blk_later HN2.out hb
    have hy3 := blk_later HY2.out hb
    have HN3 := Lib.hid hn3
    have HK3 := Lib.hid (HK2.out.trans (hb.mono HK2.out.size))
    have HO3 := Lib.hid (show OwnG w3 _ _ _ from OwnL.below HO2.out hb)
    have HV3 := Lib.hid (HV.out.below HK3.out)
    have hlt3 := (Array.getElem?_eq_some_iff.1 hn3).1
    have n0 := cell_of_blk hn3 0 (v := .string t) rfl
    have n1 := cell_of_blk hn3 1 (v := .slice ad L.length cap) rfl
    have nf1 := free_of_blk hn3 1
    have y0 := cell_of_blk hy3 0 (v := .string y.1) rfl
    have y1 := cell_of_blk hy3 1 (v := .string y.2) rfl
    clear hb hn3 hy3 HI HN2 HK2 HY2 HO2
    by_cases hi : 0 ≤ sigIdx (idP y) 0 L
    · have hadd : addL L y = L.set (sigIdx (idP y) 0 L).toNat y := if_pos hi
      have hlt := sigIdx_lt (idP y) L 0 hi
      obtain ⟨i, hie⟩ : ∃ i : Nat, sigIdx (idP y) 0 L = i := ⟨(sigIdx (idP y) 0 L).toNat, by omega⟩
      rw [hie] at hadd hlt ⊢
      rw [Int.toNat_natCast] at hadd
      rw [hadd] at HAv
      have hil : i < L.length := by omega
      obtain ⟨g, cap', he, hg, hrow⟩ := OwnG.rowG HO3.out (by omega)
      obtain rfl : ad = some ⟨g, 0, none⟩ := by cases he; rfl
      have hgl : w.heap.size + 1 ≤ g := by rw [size_alloc] at hg; exact hg
      have hgn : g ≠ w1.heap.size := by
        rintro rfl
        obtain ⟨cur, h1, -⟩ := hrow
        have h2 := HN3.out
        rw [NtAt, h1] at h2
        cases h2
      obtain ⟨⟨g0, g1⟩, gf0, gf1⟩ := hrow.writes hil
      have hset := hrow.set i y hil
      have hk9 : Kp (fun k => k = g) w3 ((w3.setCell ⟨g, i * 2, none⟩ (.string y.1)).setCell ⟨g, i * 2 + 1, none⟩ (.string y.2)) := ((Kp.refl (fun k => k = g) w3).setCell (p := ⟨g, i * 2, none⟩) (.inl rfl) _).setCell (p := ⟨g, i * 2 + 1, none⟩) (.inl rfl) _
      have hn9 := blk_kp HN3.out hk9 (Ne.symm hgn)
      have hK9 : Below w.heap.size w _ := HK3.out.trans (hk9.toBelow (by have := HK3.out.size; omega) (fun j hj => by omega))
      have hll : (L.set i y).length = L.length := List.length_set
      have hF := format_any t (some ⟨g, 0, none⟩) (L.set i y) cap _ (by omega) (by omega) hset.sigs (HV.out.below hK9)
      rw [hll, ← HAv.out] at hF
      have HF := Lib.hid hF
      have HK9 := Lib.hid hK9
      have hi0 : (0 : Int) ≤ (i : Int) := Int.natCast_nonneg _
      have hi1 : (i : Int) < (L.length : Int) := by omega
      have q0 := cell_of_blk hn9 0 (v := .string t) rfl
      have q1 := cell_of_blk hn9 1 (v := .slice (some ⟨g, 0, none⟩) L.length cap) rfl
      clear hg hrow hset hk9 hn9 hK9 hF hll hadd hlt he hie hi HO3 HK3 HN3 HV3 HAv
      go_wp2_with fail
      refine HF.out.mono ?_
      rintro e w9 ⟨rfl, hb⟩
      have HKz := Lib.hid (HK9.out.trans (hb.mono HK9.out.size))
      clear hb
      go_wp2_with fail
      go_ret2
      exact ⟨rfl, HKz.out⟩
    · have hadd : addL L y = L ++ [y] := if_neg hi
      rw [hadd] at HAv
      have hil : (sigIdx (idP y) 0 L) < 0 := by omega
      generalize sigIdx (idP y) 0 L = iz at hi hil ⊢
      have hll : (L ++ [y]).length = L.length + 1 := by rw [List.length_append]; rfl
      obtain ⟨i0, hinf, hz0, hz1, hz2⟩ := info_parts infoSig
      have HI2 := Lib.hid hz2
      clear hz2 hadd
      go_wp2_with (first | (at_builtin; refine wpList_appL _ rfl _ _ 31 rfl i0 (.agg #[.string ⟨#[]⟩, .string ⟨#[]⟩]) 32 Tryd.underlying31 hinf hz0 hz1 HI2.out rfl (by decide) _ (.slice ad L.length cap) L rfl (OwnL.alloc HO3.out _) y rfl ⟨w3.heap.size, 0, none⟩ 1 rfl (one_sig w3 y _) ?_ ?_ (by decide) ?_ ?_) | fail)
      · intro u hu
        simp at hu
        rcases hu with rfl | rfl <;> rfl
      · omega
      · rw [size_alloc, size_alloc]; omega
      intro v5 w5 ho5 hg5 hown5
      obtain ⟨ao5, cap5, rfl, -, -, -⟩ := OwnL.form ho5
      have hown4 := OwnL.lt HO3.out
      have hk5 : Kp (fun k => (Value.slice ad L.length cap).ownBlock = some k) w3 w5 := ((Kp.refl (fun k => (Value.slice ad L.length cap).ownBlock = some k) w3).alloc _).grown hg5 (fun k h => .inl h)
      have hgn : (Value.slice ad L.length cap).ownBlock ≠ some w1.heap.size := by
        intro h
        rcases HO3.out.2 with ⟨h2, _⟩ | ⟨g', cap', cur, hv, hb, hh, r⟩
        · rw [h2] at h; cases h
        · rw [hv] at h
          obtain rfl : g' = w1.heap.size := Option.some.inj h
          have h2 := HN3.out
          rw [NtAt, hh] at h2
          cases h2
      have hn5 := blk_kp HN3.out hk5 hgn
      have hK5 : Below w.heap.size w w5 := HK3.out.trans (hk5.toBelow (by have := HK3.out.size; omega) (fun k h => by have := (hown4 _ h).1; rw [size_alloc] at this; omega))
      have m0 := cell_of_blk hn5 0 (v := .string t) rfl
      have m1 := cell_of_blk hn5 1 (v := .slice ad L.length cap) rfl
      have mf1 := free_of_blk hn5 1
      have hk9 : Kp (fun k => k = w1.heap.size) w5 (w5.setCell ⟨w1.heap.size, 1, none⟩ (.slice ao5 (L ++ [y]).length cap5)) := (Kp.refl (fun k => k = w1.heap.size) w5).setCell (p := ⟨w1.heap.size, 1, none⟩) (.inl rfl) _
      have hgn5 : ∀ g, (Value.slice ao5 (L ++ [y]).length cap5).ownBlock = some g → g ≠ w1.heap.size := by
        intro g hg e
        rcases hown5 with h | h
        · rw [hg, e] at h; exact hgn h.symm
        · rw [hg, e] at h
          have := Option.some.inj h
          omega
      have hs9 := (OwnG.sigs (show OwnG _ _ _ _ from OwnL.kp ho5 hk9 hgn5))
      obtain ⟨ad9, cap9, he9, hs9⟩ := hs9
      obtain ⟨rfl, rfl⟩ : ao5 = ad9 ∧ cap5 = cap9 := by cases he9; exact ⟨rfl, rfl⟩
      have hK9 : Below w.heap.size w _ := hK5.trans (hk9.toBelow (by have := hK5.size; omega) (fun j hj => by omega))
      have hF := format_any t ao5 (L ++ [y]) cap5 _ (by omega) (by omega) hs9 (HV.out.below hK9)
      rw [← HAv.out] at hF
      rw [hll] at hF hK9 ⊢
      have HF := Lib.hid hF
      have HK9 := Lib.hid hK9
      clear hk9 hgn5 hs9 he9 hK9 hF hn5 hK5 hgn hk5 hown4 ho5 hg5 hown5 hinf hz0 hz1 n0 n1 nf1 y0 y1 hll HAv
      go_wp2_with fail
      refine HF.out.mono ?_
      rintro e w9 ⟨rfl, hb⟩
      have HKz := Lib.hid (HK9.out.trans (hb.mono HK9.out.size))
      clear hb
      go_wp2_with fail
      go_ret2
      exact ⟨rfl, HKz.out⟩
  · rw [if_neg (by decide)] at hav
    have HAv := Lib.hid hav
    clear hav
    go_enter Tryd.func17, Tryd.ntmps17
    go_wp2_with fail
    refine (HP.out _ (HV.out.below HK0.out)).mono ?_
    rintro e w1 ⟨v, rfl, hO, hb⟩
    have hk1 : Below w.heap.size w w1 := HK0.out.trans (hb.mono HK0.out.size)
    have HK1 := Lib.hid hk1
    obtain ⟨ad, cap, rfl, -⟩ := OwnG.sigs hO
    clear hb hO hk1
    go_wp2_with fail
    go_ret2
    rw [HAv.out]
    exact ⟨rfl, HK1.out.alloc HK1.out.size _⟩
end Go.Proofs.YtmejjphliaiamaaDoor
