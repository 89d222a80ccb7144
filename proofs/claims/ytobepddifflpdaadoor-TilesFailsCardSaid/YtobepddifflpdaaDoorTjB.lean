import Derived.Test.YtobepddifflpdaaDoorTjA
set_option linter.unusedVariables false
namespace Go.Proofs.YtobepddifflpdaaDoor
open Go Go.RowKit Go.Lib Go.Sort Go.Maps Go.WideMaps

/-- nothing gone, nothing too long: no call fails. -/
theorem out_zero {fb : Nat} {hv : Value} {n k c : Nat} {hn : n ≤ 1000} {w w' : World} {s s' : Value × List ByteArray} {e : Int} (hkn : k ≤ n) (h : Out (filesSrc fb hv n leafK ⟨#[]⟩ ⟨#[]⟩ hn leafK_size) k c w s w' e s') : e = 0 := files_ok hkn h.ev
theorem asked_of_out {fb : Nat} {hv : Value} {n k c : Nat} {gone long : ByteArray} {hn : n ≤ 1000} {w w' : World} {s s' : Value × List ByteArray} {e : Int} (h : Out (filesSrc fb hv n leafK gone long hn leafK_size) k c w s w' e s') :
    ∃ new, s'.2 = s.2 ++ new ∧ new.length ≤ c ∧ ∀ p ∈ new, AskP k p := by
  obtain ⟨new, h1, h2, h3, _⟩ := h.ev
  exact ⟨new, h1, h2, h3⟩

theorem flat3r : ∀ (l : List (Nat × Nat × Nat)) (k c : Nat) (t : Nat × Nat × Nat), l[k]? = some t → c < 3 → (l.flatMap mkT)[3 * k + c]? = (mkT t)[c]?
  | [], k, c, t, h, _ => by simp at h
  | a :: l, 0, c, t, h, hc => by
    obtain rfl : a = t := by simpa using h
    rw [List.flatMap_cons, Nat.mul_zero, Nat.zero_add, List.getElem?_append_left (by show c < 3; exact hc)]
  | a :: l, k + 1, c, t, h, hc => by
    rw [List.flatMap_cons, List.getElem?_append_right (by show 3 ≤ _; omega)]
    have : 3 * (k + 1) + c - (mkT a).length = 3 * k + c := by show 3 * (k + 1) + c - 3 = _; omega
    rw [this]
    exact flat3r l k c t (by simpa using h) hc

def SmRel (w : World) (i : Value) (n : Nat) (wr : World) : Prop := ∃ k : Nat, k ≤ n ∧ i = .int .i64 k ∧ Below w.heap.size w wr

theorem cells_of_ownR2 {w : World} {base : Nat} {v : Value} {L : List (Nat × Nat × Nat)} (h : OwnR w base v L) : ∃ ao cap, v = .slice ao L.length cap ∧ L.length ≤ cap ∧ cap ≤ 9223372036854775807 ∧ ∀ k tl ti tx : Nat, L[k]? = some (tl, ti, tx) →
    ∃ g, ao = some ⟨g, 0, none⟩ ∧ w.cell? ⟨g, k * 3, none⟩ = some (.int .i64 tl) ∧ w.cell? ⟨g, k * 3 + 1, none⟩ = some (.int .i64 ti) ∧ w.cell? ⟨g, k * 3 + 2, none⟩ = some (.int .i64 tx) := by
  obtain ⟨ao, cap, hv, h1, h2, h3⟩ := OwnL.form h
  refine ⟨ao, cap, hv, h1, h2, fun k tl ti tx ht => ?_⟩
  have hk : k < L.length := (List.getElem?_eq_some_iff.1 ht).1
  obtain ⟨g, rfl, -, -, hc⟩ := h3 (by omega)
  have e0 := (hc (3 * k + 0) (by omega)).trans (flat3r L k 0 _ ht (by decide))
  have e1 := (hc (3 * k + 1) (by omega)).trans (flat3r L k 1 _ ht (by decide))
  have e2 := (hc (3 * k + 2) (by omega)).trans (flat3r L k 2 _ ht (by decide))
  rw [Nat.mul_comm 3 k] at e0 e1 e2
  exact ⟨g, rfl, e0, e1, e2⟩


theorem allI_length2 (n : Int) : (allI n).length ≤ 2000 := by
  unfold allI
  split
  · exact allT_length _ (by omega)
  · exact Nat.zero_le _
/-! each path that was asked for is looked up among the tiles -/
def pathL (t : Nat × Nat × Nat) : ByteArray := pathT t.1 t.2.1 t.2.2
def FdRel (L : List (Nat × Nat × Nat)) (a : ByteArray) (w0 : World) (f i : Value) (wr : World) : Prop :=
  ∃ k : Nat, k ≤ L.length ∧ i = .int .i64 k ∧ f = .bool ((L.take k).any fun t => decide (pathL t = a)) ∧ Below w0.heap.size w0 wr
def AkRel (fb : Nat) (hv : Value) (n : Nat) (w0 : World) (s : Value × List ByteArray) (i : Value) (wr : World) : Prop :=
  ∃ k : Nat, k ≤ s.2.length ∧ i = .int .i64 k ∧ St fb hv n ⟨#[]⟩ ⟨#[]⟩ w0 wr s

set_option maxRecDepth 100000 in
set_option maxHeartbeats 4000000 in
theorem roots_any (z i m : Int) (w : World) (hT : Tabs w) (hz0 : 0 ≤ z) (hz1 : z ≤ 255) :
    Calls Tryd.prog 6 #[.int .u8 z, .int .i64 i, .int .i64 m] w fun e w' => e = .returned (.bool true) ∧ Below w.heap.size w w' := by
  have HT := Lib.hid hT
  clear hT
  go_enter Tryd.func6, Tryd.ntmps6
  go_wp2_with fail
  refine (reads_any w HT.out).mono ?_
  rintro e w1 ⟨rfl, hb1⟩
  have HB1 := Lib.hid hb1
  clear hb1
  obtain ⟨k, hk⟩ : ∃ k : Nat, z % 90 = (k : Int) := ⟨(z % 90).toNat, by omega⟩
  have hk90 : k ≤ 89 := by omega
  go_wp2_with fail
  refine (leaves_any k w1 (by omega)).mono ?_
  rintro e w2 ⟨v, rfl, ho2, hb2⟩
  obtain ⟨ao, nn, cp, rfl⟩ : ∃ ao n c, v = .slice ao n c := by obtain ⟨ao, c, h, -⟩ := OwnL.form ho2; exact ⟨ao, _, c, h⟩
  have hnn : nn = k := by
    obtain ⟨ao', c, h, -⟩ := OwnL.form ho2
    injection h with _ e2 _
    rw [e2]; simp
  subst hnn
  have hF : FilesAt (w2.alloc (.cells #[.slice ao nn cp, .string ⟨#[]⟩, .string ⟨#[]⟩, .slice none 0 0] 42)) w2.heap.size (.slice ao nn cp) nn leafK ⟨#[]⟩ ⟨#[]⟩ (.slice none 0 0) [] := files_new ho2 (by have := HT.out.size; have := HB1.out.size; omega) hb2.size _ _
  have hb2' : Below w.heap.size w (w2.alloc (.cells #[.slice ao nn cp, .string ⟨#[]⟩, .string ⟨#[]⟩, .slice none 0 0] 42)) := (HB1.out.trans (hb2.mono HB1.out.size)).alloc (by have := HB1.out.size; have := hb2.size; omega) _
  have hsz2 : w.heap.size ≤ w2.heap.size := by have := HB1.out.size; have := hb2.size; omega
  have HS2 := Lib.hid (show St w2.heap.size (.slice ao nn cp) nn ⟨#[]⟩ ⟨#[]⟩ w _ (.slice none 0 0, []) from ⟨hF, HT.out.below hb2', hb2', fun g hg => hg.elim (fun h => by omega) (fun h => by cases h)⟩)
  clear hF hb2 ho2 hb2' HB1
  go_wp2_with fail
  generalize w2.alloc (.cells #[.slice ao nn cp, .string ⟨#[]⟩, .string ⟨#[]⟩, .slice none 0 0] 42) = w3 at HS2 ⊢
  generalize w2.heap.size = fb at HS2 ⊢
  generalize hs0 : ((Value.slice none 0 0, []) : Value × List ByteArray) = s0 at HS2
  have hl0 : s0.2.length ≤ 0 := by rw [← hs0]; exact Nat.le_refl _
  have ha0 : ∀ p ∈ s0.2, AskP nn p := by rw [← hs0]; intro p hp; cases hp
  have HA0 := Lib.hid ha0
  clear hs0 ha0
  refine (froot_any fb _ nn nn ⟨#[]⟩ ⟨#[]⟩ (by omega) w w3 s0 HS2.out (Nat.le_refl _) (by omega)).mono ?_
  rintro e w4 ⟨t, e1, s1, rfl, hO, ht, -⟩
  obtain rfl := out_zero (Nat.le_refl _) hO
  obtain rfl := ht rfl
  have HS3 := Lib.hid (HS2.out.out hO)
  obtain ⟨n1, hl1, hc1, ha1⟩ := asked_of_out hO
  have hl1' : s1.2.length ≤ 180 := by rw [hl1, List.length_append]; omega
  have HA1 := Lib.hid (show ∀ p ∈ s1.2, AskP nn p by rw [hl1]; exact fun p hp => (List.mem_append.1 hp).elim (HA0.out p) (ha1 p))
  clear hO ht hl1 hc1 ha1 HS2 HA0
  go_wp2_with fail
  refine (fincl_any fb _ nn nn ⟨#[]⟩ ⟨#[]⟩ (by omega) i w w4 s1 HS3.out (Nat.le_refl _) (by omega)).mono ?_
  rintro e w5 ⟨v5, er5, e5, s5, l5, rfl, hO, hp5, hok5, hno5⟩
  obtain rfl := out_zero (Nat.le_refl _) hO
  have HS5 := Lib.hid (HS3.out.out hO)
  have HP5 := Lib.hid hp5
  have HK5 := Lib.hid (And.intro hok5 hno5)
  obtain ⟨n1, hl1, hc1, ha1⟩ := asked_of_out hO
  have hl5' : s5.2.length ≤ 360 := by rw [hl1, List.length_append]; omega
  have HA5 := Lib.hid (show ∀ p ∈ s5.2, AskP nn p by rw [hl1]; exact fun p hp => (List.mem_append.1 hp).elim (HA1.out p) (ha1 p))
  clear hO hl1 hc1 ha1 HS3 HA1 hp5 hok5 hno5
  go_wp2_with fail
  refine (refInclusion_any ao nn cp leafK i w5 (by omega) HS5.out.hs).mono ?_
  rintro e w6 ⟨v6, er6, l6, rfl, ho6, hb6, hok6, hno6⟩
  have HQ6 := Lib.hid (Pr.new HS5.out.fa ho6)
  have HP6 := Lib.hid (HP5.out.below hb6)
  have HS6 := Lib.hid (HS5.out.below hb6)
  have HE6 := Lib.hid (show er5 = er6 ∧ l5 = l6 ∧ l6.length ≤ 2000 by
    obtain ⟨h1, h2⟩ := HK5.out
    by_cases hok : 0 ≤ i ∧ i < nn
    · obtain ⟨a1, a2, -⟩ := h1 hok
      obtain ⟨a3, a4⟩ := hok6 hok
      have := inclG_len (rootL leafK) nn 0 i.toNat
      exact ⟨by rw [a1, a3], by rw [a2 (by first | trivial | rfl), a4], by rw [a4]; omega⟩
    · obtain ⟨a1, a2, -⟩ := h2 hok
      obtain ⟨a3, a4⟩ := hno6 hok
      exact ⟨by rw [a1, a3], by rw [a2, a4], by rw [a4]; simp⟩)
  clear ho6 hb6 hok6 hno6 HK5 HP5 HS5
  obtain ⟨he6, hl6, hl6'⟩ := HE6.out
  subst he6
  subst hl6
  clear HE6
  go_wp2_with fail
  refine (fcons_any fb _ nn nn ⟨#[]⟩ ⟨#[]⟩ (by omega) m w w6 s5 HS6.out (Nat.le_refl _) (by omega)).mono ?_
  rintro e w7 ⟨v7, er7, e7, s7, l7, rfl, hO, hp7, hok7, hno7⟩
  obtain rfl := out_zero (Nat.le_refl _) hO
  have HS7 := Lib.hid (HS6.out.out hO)
  have HP7 := Lib.hid hp7
  have HK7 := Lib.hid (And.intro hok7 hno7)
  have HQ67 := Lib.hid (HQ6.out.out hO)
  have HP67 := Lib.hid (HP6.out.out hO)
  obtain ⟨n1, hl1, hc1, ha1⟩ := asked_of_out hO
  have hl7' : s7.2.length ≤ 540 := by rw [hl1, List.length_append]; omega
  have HA7 := Lib.hid (show ∀ p ∈ s7.2, AskP nn p by rw [hl1]; exact fun p hp => (List.mem_append.1 hp).elim (HA5.out p) (ha1 p))
  clear hO hl1 hc1 ha1 HS6 HA5 hp7 hok7 hno7 HQ6 HP6
  go_wp2_with fail
  refine (refConsistency_any ao nn cp leafK m w7 (by omega) HS7.out.hs).mono ?_
  rintro e w8 ⟨v8, er8, l8, rfl, ho8, hb8, hok8, hno8⟩
  have HQ8 := Lib.hid (Pr.new HS7.out.fa ho8)
  have HP8 := Lib.hid (HP7.out.below hb8)
  have HQ68 := Lib.hid (HQ67.out.below hb8)
  have HP68 := Lib.hid (HP67.out.below hb8)
  have HS8 := Lib.hid (HS7.out.below hb8)
  have HE8 := Lib.hid (show er7 = er8 ∧ l7 = l8 ∧ l8.length ≤ 2000 by
    obtain ⟨h1, h2⟩ := HK7.out
    by_cases hok : 0 ≤ m ∧ m ≤ nn
    · obtain ⟨a1, a2, -⟩ := h1 hok
      obtain ⟨a3, a4⟩ := hok8 hok
      refine ⟨by rw [a1, a3], by rw [a2 (by first | trivial | rfl), a4], ?_⟩
      rw [a4]
      split
      · simp
      · have := partG_len (rootL leafK) nn m.toNat 0 true (by omega)
        omega
    · obtain ⟨a1, a2, -⟩ := h2 hok
      obtain ⟨a3, a4⟩ := hno8 hok
      exact ⟨by rw [a1, a3], by rw [a2, a4], by rw [a4]; simp⟩)
  clear ho8 hb8 hok8 hno8 HK7 HP7 HS7 HQ67 HP67
  obtain ⟨he8, hl8, hl8'⟩ := HE8.out
  subst he8
  subst hl8
  clear HE8
  go_wp2_with fail
  refine (refroot_hash ao nn cp nn leafK w8 (by omega) (Nat.le_refl _) HS8.out.hs).mono ?_
  rintro e w9 ⟨rfl, hb9⟩
  have HQ9 := Lib.hid (HQ8.out.below hb9)
  have HP9 := Lib.hid (HP8.out.below hb9)
  have HQ69 := Lib.hid (HQ68.out.below hb9)
  have HP69 := Lib.hid (HP68.out.below hb9)
  have HS9 := Lib.hid (HS8.out.below hb9)
  have hself : ((rootL leafK 0 nn).toList == (rootL leafK 0 nn).toList) = true := beq_self_eq_true _
  clear hb9 HQ8 HP8 HQ68 HP68 HS8
  go_wp2_with fail
  obtain ⟨b1, o1, -⟩ := HP69.out
  obtain ⟨b2, o2, -⟩ := HQ69.out
  refine (sametexts_any _ _ b1 b2 l5 w9 o1 o2 hl6').mono ?_
  rintro e w10 ⟨rfl, hb10⟩
  have HQ10 := Lib.hid (HQ9.out.below hb10)
  have HP10 := Lib.hid (HP9.out.below hb10)
  have HS10 := Lib.hid (HS9.out.below hb10)
  clear hb10 HQ9 HP9 HS9 o1 o2 HQ69 HP69
  go_wp2_with fail
  obtain ⟨b1, o1, -⟩ := HP10.out
  obtain ⟨b2, o2, -⟩ := HQ10.out
  refine (sametexts_any _ _ b1 b2 l7 w10 o1 o2 hl8').mono ?_
  rintro e w11 ⟨rfl, hb11⟩
  have HS11 := Lib.hid (HS10.out.below hb11)
  clear hb11 HQ10 HP10 HS10 o1 o2
  obtain ⟨ao2, cp2, hav, hc1, hc2, hcells⟩ := cells_of_ownS HS11.out.fa.own
  have c3 : w11.cell? ⟨fb, 3, none⟩ = some (.slice ao2 s7.2.length cp2) := by rw [← hav]; exact cell_of_blk HS11.out.fa.blk 3 rfl
  have HC := Lib.hid hcells
  have HAv := Lib.hid hav
  clear hcells hav
  go_wp2_with fail
  go_loopw [105] (fun i wr => AkRel fb (.slice ao nn cp) nn w s7 i wr) (fun i _ => s7.2.length - (RowKit.intOf i).toNat)
  case atStart => exact ⟨0, Nat.zero_le _, rfl, HS11.out⟩
  case round =>
    obtain ⟨j, hj, rfl, hst⟩ := hrel
    have HSt := Lib.hid hst
    clear hst
    by_cases hlt : j < s7.2.length
    · obtain ⟨a, ha⟩ : ∃ a, s7.2[j]? = some a := ⟨_, List.getElem?_eq_getElem hlt⟩
      have hask := HA7.out a (List.mem_of_getElem? ha)
      obtain ⟨g, rfl, q0⟩ := HC.out j a ha
      have q1 : wr.cell? ⟨g, j, none⟩ = some (.string a) := by
        obtain ⟨ao3, cp3, hav3, -, -, hcells3⟩ := cells_of_ownS HSt.out.fa.own
        obtain ⟨g3, rfl, q3⟩ := hcells3 j a ha
        have := HAv.out.symm.trans hav3
        injection this with e1 e2 e3
        injection e1 with e1
        injection e1 with e1
        rw [e1]
        exact q3
      have HASK := Lib.hid hask
      clear ha q0 hask
      go_wp2_with fail
      refine (refall_any nn wr).mono ?_
      rintro e w12 ⟨v12, rfl, hov, hb12⟩
      obtain ⟨ao4, cp4, rfl, hd1, hd2, hform⟩ := cells_of_ownR2 hov
      have hlen := allI_length2 nn
      have HF := Lib.hid hform
      have HSt2 := Lib.hid (HSt.out.below hb12)
      have hfin : ((allI nn).any fun t => decide (pathL t = a)) = true := by
        obtain ⟨tl, ti, tx, hT, rfl⟩ := HASK.out
        have hn1 : 1 ≤ nn := by
          obtain ⟨_, h2, _⟩ := hT
          rcases Nat.eq_zero_or_pos nn with h | h
          · subst h; simp at h2
          · exact h
        have hmem := inT_mem (by omega) hT
        rw [List.any_eq_true]
        refine ⟨(tl, ti, tx), ?_, by simp [pathL]⟩
        unfold allI
        rw [if_pos (by omega), Int.toNat_natCast]
        exact hmem
      have HFin := Lib.hid hfin
      have hfit : ∀ k tl ti tx : Nat, (allI nn)[k]? = some (tl, ti, tx) → fitT tl ti tx = true := by
        intro k tl ti tx h
        have h2 := List.mem_of_getElem? h
        unfold allI at h2
        split at h2
        · rw [Int.toNat_natCast] at h2
          exact inT_fit (by omega) (mem_inT h2)
        · cases h2
      have HFit := Lib.hid hfit
      clear hb12 hov hform hfin hfit q1
      go_wp2_with fail
      generalize hL : allI nn = L at *
      clear hL
      have HSt2' := HSt2
      go_loopw [22, 112] (fun f i wr => FdRel L a w12 f i wr) (fun _ i _ => L.length - (RowKit.intOf i).toNat)
      case atStart => exact ⟨0, Nat.zero_le _, rfl, rfl, Below.refl _ _⟩
      case round =>
        obtain ⟨k, hk2, rfl, rfl, hbel⟩ := hrel
        have HB := Lib.hid hbel
        clear hbel
        by_cases hlt2 : k < L.length
        · obtain ⟨⟨tl, ti, tx⟩, ht⟩ : ∃ t, L[k]? = some t := ⟨_, List.getElem?_eq_getElem hlt2⟩
          obtain ⟨g2, rfl, q0, q1, q2⟩ := HF.out k tl ti tx ht
          have r0 := (HB.out.cell (p := ⟨g2, k * 3, none⟩) (cell_lt q0)).trans q0
          have r1 := (HB.out.cell (p := ⟨g2, k * 3 + 1, none⟩) (cell_lt q1)).trans q1
          have r2 := (HB.out.cell (p := ⟨g2, k * 3 + 2, none⟩) (cell_lt q2)).trans q2
          have hany : (L.take (k + 1)).any (fun t => decide (pathL t = a)) = ((L.take k).any (fun t => decide (pathL t = a)) || decide (pathT tl ti tx = a)) := by
            rw [List.take_add_one, ht]
            simp only [Option.toList_some, List.any_append, List.any_cons, List.any_nil, Bool.or_false]
            rfl
          have HAny := Lib.hid hany
          have HTk := Lib.hid ht
          have HSB := Lib.hid (HB.out.alloc HB.out.size (.cells #[.int .i64 tl, .int .i64 ti, .int .i64 tx] 28))
          clear q0 q1 q2 ht hany
          cases hfnd : (L.take k).any (fun t => decide (pathL t = a)) with
          | true =>
            rw [hfnd] at HAny
            go_wp2_with fail
            refine ⟨⟨k + 1, hlt2, rfl, by rw [HAny.out]; rfl, HSB.out⟩, ?_⟩
            show L.length - ((k : Int) + 1).toNat < L.length - (k : Int).toNat
            omega
          | false =>
            rw [hfnd] at HAny
            have HI := Lib.hid (HSt2.out.tb.below HSB.out)
            go_wp2_with fail
            refine (refpath_any tl ti tx _ (fun h => HI.out.itoa _ (by have := fit_bd h; omega) (by have := fit_bd h; omega)) (fun h => HI.out.itoa _ (by have := fit_bd h; omega) (by have := fit_bd h; omega)) (fun h => HI.out.itoa _ (by have := fit_bd h; omega) (by have := fit_bd h; omega))).mono ?_
            rintro e w13 ⟨rfl, hb13⟩
            have HB13 := Lib.hid (HSB.out.trans (hb13.mono HSB.out.size))
            have hself2 := toList_eq_iff (pathT tl ti tx) a
            clear hb13
            go_wp2_with fail
            refine ⟨⟨k + 1, hlt2, rfl, by rw [HAny.out]; rfl, HB13.out⟩, ?_⟩
            show L.length - ((k : Int) + 1).toNat < L.length - (k : Int).toNat
            omega
        · obtain rfl : k = L.length := by omega
          have hall := HFin.out
          have hall2 : ((L.take L.length).any fun t => decide (pathL t = a)) = true := by rw [List.take_length]; exact hall
          have HSt3 := Lib.hid (HSt2.out.below HB.out)
          rw [hall2]
          clear hall hall2
          go_wp2_with fail
          refine ⟨⟨j + 1, hlt, rfl, HSt3.out⟩, ?_⟩
          show s7.2.length - ((j : Int) + 1).toNat < s7.2.length - (j : Int).toNat
          omega
    · obtain rfl : j = s7.2.length := by omega
      go_wp2_with fail
      go_ret
      exact ⟨rfl, HSt.out.bl⟩
end Go.Proofs.YtobepddifflpdaaDoor
