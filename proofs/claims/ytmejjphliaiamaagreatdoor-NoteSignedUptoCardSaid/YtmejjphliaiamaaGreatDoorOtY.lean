import Derived.Test.YtmejjphliaiamaaGreatDoorNsS
import Derived.Test.YtmejjphliaiamaaGreatDoorOtW
import Derived.Test.YtmejjphliaiamaaGreatDoorOtT
import Derived.Test.YtmejjphliaiamaaGreatDoorNsU
import Derived.Deep.DeepCutAuto
import Derived.Deep.RegionLaw
set_option linter.unusedVariables false
set_option linter.unusedSimpArgs false
namespace Go.Proofs.YtmejjphliaiamaaGreatDoor
open Go Go.RowKit Go.Lib Go.Sort

/-! ### a note that is taken as a checkpoint -/
theorem cp_ret4 {fn : Func} {R : Value} (a : Act) (w w0 : World) (b : Nat) (o : ByteArray) (n : Int) (r : ByteArray) (e : Int) (h : CpAt w b o n r) (hR : R = cpTup ((o, n, r), e)) (hb : Below w0.heap.size w0 w)
    (hf : fn.results = #[.cell 4 28, .tmp 5])
    (ha : a.tmps[4]?.getD undef = .pointer (some ⟨b, 0, none⟩)) (hc : a.tmps[5]?.getD undef = .int .i64 e) (hd : a.defers = []) :
    bodyPost Tryz.prog fn (fun e w' => e = .returned R ∧ Below w0.heap.size w0 w') Exit.ret a w := by
  obtain ⟨c0, c1, c2⟩ := h.cells
  subst hR
  refine bodyPost_ret (v := cpTup ((o, n, r), e)) (by simp only [results, hf]; simp [cpTup, cpVal, go_sem, c0, c1, c2, ha, hc]) hd ⟨rfl, hb⟩
theorem CpAt.facts {w : World} {b : Nat} {o : ByteArray} {n : Int} {r : ByteArray} (h : CpAt w b o n r) :
    ((w.cell? ⟨b, 0, none⟩ = some (.string o) ∧ w.cell? ⟨b, 1, none⟩ = some (.int .i64 n) ∧ w.cell? ⟨b, 2, none⟩ = some (.string r)) ∧ w.frozen? ⟨b, 0, none⟩ = false ∧ w.frozen? ⟨b, 1, none⟩ = false ∧ w.frozen? ⟨b, 2, none⟩ = false) :=
  ⟨⟨cell_of_blk h 0 rfl, cell_of_blk h 1 rfl, cell_of_blk h 2 rfl⟩, free_of_blk h 0, free_of_blk h 1, free_of_blk h 2⟩
def signedP (s : ByteArray) (S : SetT) : Cp × Int :=
  if (readP s).2 = 0 then
    (if (parseP (readP s).1.1).2 = 0 then
      (if setGood S = true then (if enoughB S (readP s).1.1 (readP s).1.2 = true then ((parseP (readP s).1.1).1, 0) else (cp0, 9)) else (cp0, 1))
    else (cp0, (parseP (readP s).1.1).2))
  else (cp0, (readP s).2)

set_option maxRecDepth 100000 in
set_option maxHeartbeats 2000000 in
theorem signed_any (s : ByteArray) (sv : SV) (S : SetT) (w : World) (hs : s.size ≤ 2097152) (hV : VarsV w) (hS : SetM w sv S) (hm : S.1.length ≤ 100000000) :
    Calls Tryz.prog 32 #[.string s, .agg #[.slice sv.ad sv.n sv.c, .int .i64 sv.need]] w fun e w' => e = .returned (cpTup (signedP s S)) ∧ Below w.heap.size w w' := by
  obtain ⟨R, hR⟩ : ∃ R, R = signedP s S := ⟨_, rfl⟩
  rw [← hR]
  unfold signedP at hR
  have HP := Lib.hid (fun W hW => read_note s W (by omega) hW)
  have hbd := readP_bd s
  unfold ReadPost at HP
  generalize readP s = P at HP hR hbd
  obtain ⟨⟨t, L⟩, pe⟩ := P
  obtain ⟨⟨hl, hz⟩, hc⟩ := hbd
  dsimp only at HP hR hl hz hc
  have HQ := Lib.hid (fun W hW => parse_any t W (by omega) hW)
  generalize parseP t = q at HQ hR
  obtain ⟨⟨co, cn, cr⟩, qe⟩ := q
  have HCk := Lib.hid (fun W (hW : Below w.heap.size w W) => qcheck_any sv S W (hS.below hW) hm)
  have HEn := Lib.hid (fun W (hW : Below w.heap.size w W) ad c (hL : SigsM W ad L) => enough_any sv S t ad L c W (hS.below hW) hm hL (by omega) (by omega))
  generalize setGood S = g at HCk hR
  generalize enoughB S t L = en at HEn hR
  have HV := Lib.hid hV
  have HR := Lib.hid hR
  obtain ⟨sa, sn, sc, sneed⟩ := sv
  unfold cpTup cpVal at HQ
  dsimp only at *
  clear hV hR hS hc
  go_enter Tryz.func32, Tryz.ntmps32
  go_wp2_with fail
  have hb0 : Below w.heap.size w ((w.alloc (.cells #[.slice sa sn sc, .int .i64 sneed] 24)).alloc (.cells #[.string ⟨#[]⟩, .int .i64 0, .string ⟨#[]⟩] 28)) := ((Below.refl _ _).alloc (Nat.le_refl _) _).alloc (by simp) _
  have hs0 : ((w.alloc (.cells #[.slice sa sn sc, .int .i64 sneed] 24)).alloc (.cells #[.string ⟨#[]⟩, .int .i64 0, .string ⟨#[]⟩] 28)).heap[w.heap.size]? = some (.cells #[.slice sa sn sc, .int .i64 sneed] 24 (0, 0)) := blk_new1 _ _ _
  have hc0 : CpAt ((w.alloc (.cells #[.slice sa sn sc, .int .i64 sneed] 24)).alloc (.cells #[.string ⟨#[]⟩, .int .i64 0, .string ⟨#[]⟩] 28)) (w.heap.size + 1) ⟨#[]⟩ 0 ⟨#[]⟩ := blk_new2 _ _ _
  generalize (w.alloc (.cells #[.slice sa sn sc, .int .i64 sneed] 24)).alloc (.cells #[.string ⟨#[]⟩, .int .i64 0, .string ⟨#[]⟩] 28) = w0 at hb0 hs0 hc0 ⊢
  refine (HP.out w0 (HV.out.below hb0)).mono ?_
  rintro e w1 ⟨v, rfl, hO, hb⟩
  obtain ⟨ad, cap, rfl, hSg⟩ := OwnG.sigs hO
  have HS1 := Lib.hid (blk_later hs0 hb)
  have HC1 := Lib.hid (show CpAt w1 (w.heap.size + 1) ⟨#[]⟩ 0 ⟨#[]⟩ from blk_later hc0 hb)
  have HB1 := Lib.hid (hb0.trans (hb.mono hb0.size))
  have HSg := Lib.hid hSg
  clear hb0 hs0 hc0 hb hO hSg
  by_cases h0 : pe = 0
  · subst h0
    have hr := HR.out
    rw [if_pos rfl] at hr
    have HR1 := Lib.hid hr
    clear hr HR
    go_wp2_with fail
    have hbn : Below w.heap.size w (w1.alloc (.cells #[.string t, .slice ad L.length cap] 69)) := HB1.out.alloc HB1.out.size _
    have hN : (w1.alloc (.cells #[.string t, .slice ad L.length cap] 69)).heap[w1.heap.size]? = some (.cells #[.string t, .slice ad L.length cap] 69 (0, 0)) := blk_new _ _
    have hSn := HSg.out.below ((Below.refl _ _).alloc (Nat.le_refl _) (.cells #[.string t, .slice ad L.length cap] 69))
    have hC2 : CpAt (w1.alloc (.cells #[.string t, .slice ad L.length cap] 69)) (w.heap.size + 1) ⟨#[]⟩ 0 ⟨#[]⟩ := blk_alloc HC1.out _
    have hS2 := blk_alloc HS1.out (.cells #[.string t, .slice ad L.length cap] 69)
    generalize w1.alloc (.cells #[.string t, .slice ad L.length cap] 69) = w2 at hbn hN hSn hC2 hS2 ⊢
    generalize w1.heap.size = nb at hN ⊢
    refine (HQ.out w2 (HV.out.below hbn)).mono ?_
    rintro e w3 ⟨rfl, hb3⟩
    have HN3 := Lib.hid (blk_later hN hb3)
    have HSg3 := Lib.hid (hSn.below hb3)
    have HC3 := Lib.hid (show CpAt w3 (w.heap.size + 1) ⟨#[]⟩ 0 ⟨#[]⟩ from blk_later hC2 hb3)
    have HS3 := Lib.hid (blk_later hS2 hb3)
    have HB3 := Lib.hid (hbn.trans (hb3.mono hbn.size))
    clear hbn hN hSn hC2 hS2 hb3 HSg HC1 HS1 HB1 HP HQ
    have hcp3 : CpAt (w3.alloc (.cells #[.string co, .int .i64 cn, .string cr] 28)) w3.heap.size co cn cr := blk_new _ _
    have hC4 : CpAt (w3.alloc (.cells #[.string co, .int .i64 cn, .string cr] 28)) (w.heap.size + 1) ⟨#[]⟩ 0 ⟨#[]⟩ := blk_alloc HC3.out _
    have hN4 := blk_alloc HN3.out (.cells #[.string co, .int .i64 cn, .string cr] 28)
    have hS4 := blk_alloc HS3.out (.cells #[.string co, .int .i64 cn, .string cr] 28)
    have hb4 : Below w.heap.size w (w3.alloc (.cells #[.string co, .int .i64 cn, .string cr] 28)) := HB3.out.alloc HB3.out.size _
    have hg4 := HSg3.out.below ((Below.refl _ _).alloc (Nat.le_refl _) (.cells #[.string co, .int .i64 cn, .string cr] 28))
    have HCP4 := Lib.hid hcp3
    have HC4 := Lib.hid hC4
    have HN4 := Lib.hid hN4
    have HS4 := Lib.hid hS4
    have HB4 := Lib.hid hb4
    have HG4 := Lib.hid hg4
    clear hcp3 hC4 hN4 hS4 hb4 hg4 HN3 HSg3 HC3 HS3 HB3
    by_cases h1 : qe = 0
    · subst h1
      have hr := HR1.out
      rw [if_pos rfl] at hr
      have HR2 := Lib.hid hr
      clear hr HR1
      obtain ⟨⟨x0, x1, x2⟩, y0, y1, y2⟩ := HC4.out.facts
      have s0 := cell_of_blk HS4.out 0 rfl
      have s1 := cell_of_blk HS4.out 1 rfl
      go_wp2_with fail
      refine (HCk.out _ HB4.out).mono ?_
      rintro e w5 ⟨rfl, hb5⟩
      have HN5 := Lib.hid (blk_later HN4.out hb5)
      have HG5 := Lib.hid (HG4.out.below hb5)
      have HC5 := Lib.hid (show CpAt w5 (w.heap.size + 1) ⟨#[]⟩ 0 ⟨#[]⟩ from blk_later HC4.out hb5)
      have HP5 := Lib.hid (show CpAt w5 w3.heap.size co cn cr from blk_later HCP4.out hb5)
      have HS5 := Lib.hid (blk_later HS4.out hb5)
      have HB5 := Lib.hid (HB4.out.trans (hb5.mono HB4.out.size))
      clear hb5 HN4 HG4 HC4 HCP4 HS4 HB4 x0 x1 x2 y0 y1 y2 s0 s1
      obtain ⟨⟨x0, x1, x2⟩, y0, y1, y2⟩ := HC5.out.facts
      cases g with
      | false =>
        have hr := HR2.out
        rw [if_neg (by decide)] at hr
        have HR3 := Lib.hid hr
        have hck : chkE false = 1 := rfl
        rw [hck]
        clear hr HR2
        go_wp2_with fail
        exact cp_ret4 _ _ w (w.heap.size + 1) ⟨#[]⟩ 0 ⟨#[]⟩ 1 (HC5.out.set3 _ _ _) (congrArg cpTup HR3.out) (below_set3v HB5.out (by omega) _ _ _) rfl rfl rfl rfl
      | true =>
        have hr := HR2.out
        rw [if_pos rfl] at hr
        have HR3 := Lib.hid hr
        have hck : chkE true = 0 := rfl
        rw [hck]
        have s0 := cell_of_blk HS5.out 0 rfl
        have s1 := cell_of_blk HS5.out 1 rfl
        have n0 := cell_of_blk HN5.out 0 rfl
        have n1 := cell_of_blk HN5.out 1 rfl
        clear hr HR2 x0 x1 x2 y0 y1 y2
        go_wp2_with fail
        refine (HEn.out w5 HB5.out ad cap HG5.out).mono ?_
        rintro e w6 ⟨rfl, hb6⟩
        have HC6 := Lib.hid (show CpAt w6 (w.heap.size + 1) ⟨#[]⟩ 0 ⟨#[]⟩ from blk_later HC5.out hb6)
        have HP6 := Lib.hid (show CpAt w6 w3.heap.size co cn cr from blk_later HP5.out hb6)
        have HB6 := Lib.hid (HB5.out.trans (hb6.mono HB5.out.size))
        clear hb6 HC5 HP5 HS5 HB5 HN5 s0 s1 n0 n1
        obtain ⟨⟨x0, x1, x2⟩, y0, y1, y2⟩ := HC6.out.facts
        cases en with
        | false =>
          have hr := HR3.out
          rw [if_neg (by decide)] at hr
          have HR4 := Lib.hid hr
          clear hr HR3
          go_wp2_with fail
          exact cp_ret4 _ _ w (w.heap.size + 1) ⟨#[]⟩ 0 ⟨#[]⟩ 9 (HC6.out.set3 _ _ _) (congrArg cpTup HR4.out) (below_set3v HB6.out (by omega) _ _ _) rfl rfl rfl rfl
        | true =>
          have hr := HR3.out
          rw [if_pos rfl] at hr
          have HR4 := Lib.hid hr
          obtain ⟨⟨z0, z1, z2⟩, -⟩ := HP6.out.facts
          clear hr HR3
          go_wp2_with fail
          exact cp_ret4 _ _ w (w.heap.size + 1) co cn cr 0 (HC6.out.set3 _ _ _) (congrArg cpTup HR4.out) (below_set3v HB6.out (by omega) _ _ _) rfl rfl rfl rfl
    · have hr := HR1.out
      rw [if_neg h1] at hr
      have HR2 := Lib.hid hr
      have h1b : (qe != 0) = true := bne_iff_ne.2 h1
      obtain ⟨⟨x0, x1, x2⟩, y0, y1, y2⟩ := HC4.out.facts
      clear hr HR1 h1
      go_wp2_with fail
      exact cp_ret4 _ _ w (w.heap.size + 1) ⟨#[]⟩ 0 ⟨#[]⟩ qe (HC4.out.set3 _ _ _) (congrArg cpTup HR2.out) (below_set3v HB4.out (by omega) _ _ _) rfl rfl rfl rfl
  · have hr := HR.out
    rw [if_neg h0] at hr
    have HR1 := Lib.hid hr
    have h0b : (pe != 0) = true := bne_iff_ne.2 h0
    have hC2 : CpAt (w1.alloc (.cells #[.string t, .slice ad L.length cap] 69)) (w.heap.size + 1) ⟨#[]⟩ 0 ⟨#[]⟩ := blk_alloc HC1.out _
    have HC2 := Lib.hid hC2
    have HB2 := Lib.hid (HB1.out.alloc HB1.out.size (.cells #[.string t, .slice ad L.length cap] 69))
    obtain ⟨⟨x0, x1, x2⟩, y0, y1, y2⟩ := hC2.facts
    clear hr HR h0 hC2
    go_wp2_with fail
    exact cp_ret4 _ _ w (w.heap.size + 1) ⟨#[]⟩ 0 ⟨#[]⟩ pe (HC2.out.set3 _ _ _) (congrArg cpTup HR1.out) (below_set3v HB2.out (by omega) _ _ _) rfl rfl rfl rfl
set_option maxRecDepth 100000 in
set_option maxHeartbeats 2000000 in
theorem rsigned_any (s : ByteArray) (sv : SV) (S : SetT) (w : World) (hs : s.size ≤ 2097152) (hV : VarsV w) (hS : SetM w sv S) (hm : S.1.length ≤ 100000000) :
    Calls Tryz.prog 33 #[.string s, .agg #[.slice sv.ad sv.n sv.c, .int .i64 sv.need]] w fun e w' => e = .returned (cpTup (signedP s S)) ∧ Below w.heap.size w w' := by
  obtain ⟨R, hR⟩ : ∃ R, R = signedP s S := ⟨_, rfl⟩
  rw [← hR]
  unfold signedP at hR
  have HP := Lib.hid (fun W (_ : VarsV W) => rread_note s W (by omega))
  have hbd := readP_bd s
  unfold ReadPost at HP
  generalize readP s = P at HP hR hbd
  obtain ⟨⟨t, L⟩, pe⟩ := P
  obtain ⟨⟨hl, hz⟩, hc⟩ := hbd
  dsimp only at HP hR hl hz hc
  have HQ := Lib.hid (fun W (hW : VarsV W) => (parse_same t ▸ rparse_any t W (by omega) hW : Calls Tryz.prog 89 #[.string t] W fun e w' => e = .returned (cpTup (parseP t)) ∧ Below W.heap.size W w'))
  generalize parseP t = q at HQ hR
  obtain ⟨⟨co, cn, cr⟩, qe⟩ := q
  have HCk := Lib.hid (fun W (hW : Below w.heap.size w W) => rqcheck_any sv S W (hS.below hW) hm)
  have HEn := Lib.hid (fun W (hW : Below w.heap.size w W) ad c (hL : SigsM W ad L) => renough_any sv S t ad L c W (hS.below hW) hm hL (by omega) (by omega))
  generalize setGood S = g at HCk hR
  generalize enoughB S t L = en at HEn hR
  have HV := Lib.hid hV
  have HR := Lib.hid hR
  obtain ⟨sa, sn, sc, sneed⟩ := sv
  unfold cpTup cpVal at HQ
  dsimp only at *
  clear hV hR hS hc
  go_enter Tryz.func33, Tryz.ntmps33
  go_wp2_with fail
  have hb0 : Below w.heap.size w ((w.alloc (.cells #[.slice sa sn sc, .int .i64 sneed] 24)).alloc (.cells #[.string ⟨#[]⟩, .int .i64 0, .string ⟨#[]⟩] 28)) := ((Below.refl _ _).alloc (Nat.le_refl _) _).alloc (by simp) _
  have hs0 : ((w.alloc (.cells #[.slice sa sn sc, .int .i64 sneed] 24)).alloc (.cells #[.string ⟨#[]⟩, .int .i64 0, .string ⟨#[]⟩] 28)).heap[w.heap.size]? = some (.cells #[.slice sa sn sc, .int .i64 sneed] 24 (0, 0)) := blk_new1 _ _ _
  have hc0 : CpAt ((w.alloc (.cells #[.slice sa sn sc, .int .i64 sneed] 24)).alloc (.cells #[.string ⟨#[]⟩, .int .i64 0, .string ⟨#[]⟩] 28)) (w.heap.size + 1) ⟨#[]⟩ 0 ⟨#[]⟩ := blk_new2 _ _ _
  generalize (w.alloc (.cells #[.slice sa sn sc, .int .i64 sneed] 24)).alloc (.cells #[.string ⟨#[]⟩, .int .i64 0, .string ⟨#[]⟩] 28) = w0 at hb0 hs0 hc0 ⊢
  refine (HP.out w0 (HV.out.below hb0)).mono ?_
  rintro e w1 ⟨v, rfl, hO, hb⟩
  obtain ⟨ad, cap, rfl, hSg⟩ := OwnG.sigs hO
  have HS1 := Lib.hid (blk_later hs0 hb)
  have HC1 := Lib.hid (show CpAt w1 (w.heap.size + 1) ⟨#[]⟩ 0 ⟨#[]⟩ from blk_later hc0 hb)
  have HB1 := Lib.hid (hb0.trans (hb.mono hb0.size))
  have HSg := Lib.hid hSg
  clear hb0 hs0 hc0 hb hO hSg
  by_cases h0 : pe = 0
  · subst h0
    have hr := HR.out
    rw [if_pos rfl] at hr
    have HR1 := Lib.hid hr
    clear hr HR
    go_wp2_with fail
    have hbn : Below w.heap.size w (w1.alloc (.cells #[.string t, .slice ad L.length cap] 69)) := HB1.out.alloc HB1.out.size _
    have hN : (w1.alloc (.cells #[.string t, .slice ad L.length cap] 69)).heap[w1.heap.size]? = some (.cells #[.string t, .slice ad L.length cap] 69 (0, 0)) := blk_new _ _
    have hSn := HSg.out.below ((Below.refl _ _).alloc (Nat.le_refl _) (.cells #[.string t, .slice ad L.length cap] 69))
    have hC2 : CpAt (w1.alloc (.cells #[.string t, .slice ad L.length cap] 69)) (w.heap.size + 1) ⟨#[]⟩ 0 ⟨#[]⟩ := blk_alloc HC1.out _
    have hS2 := blk_alloc HS1.out (.cells #[.string t, .slice ad L.length cap] 69)
    generalize w1.alloc (.cells #[.string t, .slice ad L.length cap] 69) = w2 at hbn hN hSn hC2 hS2 ⊢
    generalize w1.heap.size = nb at hN ⊢
    refine (HQ.out w2 (HV.out.below hbn)).mono ?_
    rintro e w3 ⟨rfl, hb3⟩
    have HN3 := Lib.hid (blk_later hN hb3)
    have HSg3 := Lib.hid (hSn.below hb3)
    have HC3 := Lib.hid (show CpAt w3 (w.heap.size + 1) ⟨#[]⟩ 0 ⟨#[]⟩ from blk_later hC2 hb3)
    have HS3 := Lib.hid (blk_later hS2 hb3)
    have HB3 := Lib.hid (hbn.trans (hb3.mono hbn.size))
    clear hbn hN hSn hC2 hS2 hb3 HSg HC1 HS1 HB1 HP HQ
    have hcp3 : CpAt (w3.alloc (.cells #[.string co, .int .i64 cn, .string cr] 28)) w3.heap.size co cn cr := blk_new _ _
    have hC4 : CpAt (w3.alloc (.cells #[.string co, .int .i64 cn, .string cr] 28)) (w.heap.size + 1) ⟨#[]⟩ 0 ⟨#[]⟩ := blk_alloc HC3.out _
    have hN4 := blk_alloc HN3.out (.cells #[.string co, .int .i64 cn, .string cr] 28)
    have hS4 := blk_alloc HS3.out (.cells #[.string co, .int .i64 cn, .string cr] 28)
    have hb4 : Below w.heap.size w (w3.alloc (.cells #[.string co, .int .i64 cn, .string cr] 28)) := HB3.out.alloc HB3.out.size _
    have hg4 := HSg3.out.below ((Below.refl _ _).alloc (Nat.le_refl _) (.cells #[.string co, .int .i64 cn, .string cr] 28))
    have HCP4 := Lib.hid hcp3
    have HC4 := Lib.hid hC4
    have HN4 := Lib.hid hN4
    have HS4 := Lib.hid hS4
    have HB4 := Lib.hid hb4
    have HG4 := Lib.hid hg4
    clear hcp3 hC4 hN4 hS4 hb4 hg4 HN3 HSg3 HC3 HS3 HB3
    by_cases h1 : qe = 0
    · subst h1
      have hr := HR1.out
      rw [if_pos rfl] at hr
      have HR2 := Lib.hid hr
      clear hr HR1
      obtain ⟨⟨x0, x1, x2⟩, y0, y1, y2⟩ := HC4.out.facts
      have s0 := cell_of_blk HS4.out 0 rfl
      have s1 := cell_of_blk HS4.out 1 rfl
      go_wp2_with fail
      refine (HCk.out _ HB4.out).mono ?_
      rintro e w5 ⟨rfl, hb5⟩
      have HN5 := Lib.hid (blk_later HN4.out hb5)
      have HG5 := Lib.hid (HG4.out.below hb5)
      have HC5 := Lib.hid (show CpAt w5 (w.heap.size + 1) ⟨#[]⟩ 0 ⟨#[]⟩ from blk_later HC4.out hb5)
      have HP5 := Lib.hid (show CpAt w5 w3.heap.size co cn cr from blk_later HCP4.out hb5)
      have HS5 := Lib.hid (blk_later HS4.out hb5)
      have HB5 := Lib.hid (HB4.out.trans (hb5.mono HB4.out.size))
      clear hb5 HN4 HG4 HC4 HCP4 HS4 HB4 x0 x1 x2 y0 y1 y2 s0 s1
      obtain ⟨⟨x0, x1, x2⟩, y0, y1, y2⟩ := HC5.out.facts
      cases g with
      | false =>
        have hr := HR2.out
        rw [if_neg (by decide)] at hr
        have HR3 := Lib.hid hr
        have hck : chkE false = 1 := rfl
        rw [hck]
        clear hr HR2
        go_wp2_with fail
        exact cp_ret4 _ _ w (w.heap.size + 1) ⟨#[]⟩ 0 ⟨#[]⟩ 1 (HC5.out.set3 _ _ _) (congrArg cpTup HR3.out) (below_set3v HB5.out (by omega) _ _ _) rfl rfl rfl rfl
      | true =>
        have hr := HR2.out
        rw [if_pos rfl] at hr
        have HR3 := Lib.hid hr
        have hck : chkE true = 0 := rfl
        rw [hck]
        have s0 := cell_of_blk HS5.out 0 rfl
        have s1 := cell_of_blk HS5.out 1 rfl
        have n0 := cell_of_blk HN5.out 0 rfl
        have n1 := cell_of_blk HN5.out 1 rfl
        clear hr HR2 x0 x1 x2 y0 y1 y2
        go_wp2_with fail
        refine (HEn.out w5 HB5.out ad cap HG5.out).mono ?_
        rintro e w6 ⟨rfl, hb6⟩
        have HC6 := Lib.hid (show CpAt w6 (w.heap.size + 1) ⟨#[]⟩ 0 ⟨#[]⟩ from blk_later HC5.out hb6)
        have HP6 := Lib.hid (show CpAt w6 w3.heap.size co cn cr from blk_later HP5.out hb6)
        have HB6 := Lib.hid (HB5.out.trans (hb6.mono HB5.out.size))
        clear hb6 HC5 HP5 HS5 HB5 HN5 s0 s1 n0 n1
        obtain ⟨⟨x0, x1, x2⟩, y0, y1, y2⟩ := HC6.out.facts
        cases en with
        | false =>
          have hr := HR3.out
          rw [if_neg (by decide)] at hr
          have HR4 := Lib.hid hr
          clear hr HR3
          go_wp2_with fail
          exact cp_ret4 _ _ w (w.heap.size + 1) ⟨#[]⟩ 0 ⟨#[]⟩ 9 (HC6.out.set3 _ _ _) (congrArg cpTup HR4.out) (below_set3v HB6.out (by omega) _ _ _) rfl rfl rfl rfl
        | true =>
          have hr := HR3.out
          rw [if_pos rfl] at hr
          have HR4 := Lib.hid hr
          obtain ⟨⟨z0, z1, z2⟩, -⟩ := HP6.out.facts
          clear hr HR3
          go_wp2_with fail
          exact cp_ret4 _ _ w (w.heap.size + 1) co cn cr 0 (HC6.out.set3 _ _ _) (congrArg cpTup HR4.out) (below_set3v HB6.out (by omega) _ _ _) rfl rfl rfl rfl
    · have hr := HR1.out
      rw [if_neg h1] at hr
      have HR2 := Lib.hid hr
      have h1b : (qe != 0) = true := bne_iff_ne.2 h1
      obtain ⟨⟨x0, x1, x2⟩, y0, y1, y2⟩ := HC4.out.facts
      clear hr HR1 h1
      go_wp2_with fail
      exact cp_ret4 _ _ w (w.heap.size + 1) ⟨#[]⟩ 0 ⟨#[]⟩ qe (HC4.out.set3 _ _ _) (congrArg cpTup HR2.out) (below_set3v HB4.out (by omega) _ _ _) rfl rfl rfl rfl
  · have hr := HR.out
    rw [if_neg h0] at hr
    have HR1 := Lib.hid hr
    have h0b : (pe != 0) = true := bne_iff_ne.2 h0
    have hC2 : CpAt (w1.alloc (.cells #[.string t, .slice ad L.length cap] 69)) (w.heap.size + 1) ⟨#[]⟩ 0 ⟨#[]⟩ := blk_alloc HC1.out _
    have HC2 := Lib.hid hC2
    have HB2 := Lib.hid (HB1.out.alloc HB1.out.size (.cells #[.string t, .slice ad L.length cap] 69))
    obtain ⟨⟨x0, x1, x2⟩, y0, y1, y2⟩ := hC2.facts
    clear hr HR h0 hC2
    go_wp2_with fail
    exact cp_ret4 _ _ w (w.heap.size + 1) ⟨#[]⟩ 0 ⟨#[]⟩ pe (HC2.out.set3 _ _ _) (congrArg cpTup HR1.out) (below_set3v HB2.out (by omega) _ _ _) rfl rfl rfl rfl

/-! ### a note with one byte more is none -/
theorem sigLine_last (x : SigT) : ∃ p, sigLine x = p ++ nlB := ⟨sigW ++ hexB x.1 ++ spB ++ hexB x.2, rfl⟩
theorem sigsT_last : ∀ (L : List SigT) (a : ByteArray), ∃ p, a ++ nlB ++ sigsT L = p ++ nlB
  | [], a => ⟨a, by show a ++ nlB ++ ⟨#[]⟩ = _; exact ByteArray.append_empty⟩
  | x :: L, a => by
    obtain ⟨p, hp⟩ := sigLine_last x
    obtain ⟨q, hq⟩ := sigsT_last L (a ++ nlB ++ p)
    refine ⟨q, ?_⟩
    rw [← hq]
    show a ++ nlB ++ (sigLine x ++ sigsT L) = _
    rw [hp]
    simp only [ByteArray.append_assoc]
theorem readP_x (s : ByteArray) : readP (s ++ ⟨#[120]⟩) = (nt0, 3) := by
  rcases readP_cases (s ++ ⟨#[120]⟩) with ⟨h, -⟩ | ⟨t, L, h, hf⟩
  · exact h
  · exfalso
    obtain ⟨-, hs⟩ := fmtV_ok hf
    obtain ⟨p, hp⟩ := sigsT_last L t
    rw [hp] at hs
    have h1 := congrArg (fun b : ByteArray => b.data.toList.getLast?) hs
    simp [nlB] at h1
theorem signedP_x (s : ByteArray) (S : SetT) : signedP (s ++ ⟨#[120]⟩) S = (cp0, 3) := by
  unfold signedP
  rw [readP_x]
  rfl
theorem fmtV_le (t : ByteArray) (L : List SigT) (ht : t.size ≤ 1000) : (fmtV t L).1.size ≤ 100000 := by
  cases hg : noteG t L with
  | false => rw [fmtV_bad hg]; exact Nat.zero_le _
  | true =>
    rw [fmtV_good hg]
    have h1 := good_sigs hg
    have h2 := sigsT_le L h1.2
    show (t ++ nlB ++ sigsT L).size ≤ _
    rw [ByteArray.size_append, ByteArray.size_append]
    have : nlB.size = 1 := rfl
    omega

/-! ### the memory of the law -/
theorem own_kind {α : Type} {e : TypeId} {size : Nat} {mk : α → List Value} {w : World} {base : Nat} {v : Value} {l : List α} (h : OwnL e size mk w base v l) : ∀ g, v.ownBlock = some g → base ≤ g ∧ ∃ cs fz, w.heap[g]? = some (.cells cs e fz) := by
  intro g hg
  rcases h.2 with ⟨rfl, _⟩ | ⟨g', cap, cur, rfl, hb, hh, _⟩
  · cases hg
  · cases hg
    exact ⟨hb, _, _, hh⟩
structure NsW (w0 : World) (nb : Nat) (text : ByteArray) (I : List ByteArray) (L : List SigT) (ids sl : Value) (w : World) : Prop where
  own : OwnS w (nb + 1) ids I
  note : w.heap[nb]? = some (.cells #[.string text, sl] 69 (0, 0))
  sigs : OwnG w (nb + 1) sl L
  below : Below w0.heap.size w0 w
  base : w0.heap.size ≤ nb
theorem NsW.later {w0 : World} {nb : Nat} {text : ByteArray} {I : List ByteArray} {L : List SigT} {ids sl : Value} {w w' : World} (h : NsW w0 nb text I L ids sl w) (k : Below w.heap.size w w') : NsW w0 nb text I L ids sl w' :=
  ⟨OwnL.below h.own k, blk_later h.note k, OwnL.below h.sigs k, h.below.trans (k.mono h.below.size), h.base⟩
theorem NsW.addId {w0 : World} {nb : Nat} {text : ByteArray} {I : List ByteArray} {L : List SigT} {ids sl ids' : Value} {w w' : World} (h : NsW w0 nb text I L ids sl w) (o : Obj) (x : ByteArray) (ho : OwnS w' (nb + 1) ids' (I ++ [x])) (hg : (w.alloc o).grownBy w' ids.ownBlock) : NsW w0 nb text (I ++ [x]) L ids' sl w' := by
  have hk := own_kind h.own
  have hn := h.base
  have hs := h.below.size
  refine ⟨ho, ?_, OwnL.of_block (OwnL.alloc h.sigs o) (fun g hg2 => ?_), ?_, h.base⟩
  · refine (hg.block _ (by rw [size_alloc]; have := (Array.getElem?_eq_some_iff.1 h.note).1; omega) (fun e => ?_)).trans (blk_alloc h.note o)
    have := (hk _ e.symm).1
    omega
  · obtain ⟨_, cs, fz, h1⟩ := own_kind (OwnL.alloc h.sigs o) g hg2
    refine hg.block _ (Array.getElem?_eq_some_iff.1 h1).1 (fun e => ?_)
    obtain ⟨_, cs2, fz2, h2⟩ := own_kind (OwnL.alloc h.own o) g e.symm
    rw [h1] at h2
    have : 54 = 9 := by injection h2 with h2; injection h2
    exact absurd this (by decide)
  · exact (h.below.alloc hs o).grown hg (by rw [size_alloc]; omega) (fun g hg2 => by have := (hk g hg2).1; omega)
theorem NsW.addSig {w0 : World} {nb : Nat} {text : ByteArray} {I : List ByteArray} {L : List SigT} {ids sl sl' : Value} {w w' : World} (h : NsW w0 nb text I L ids sl w) (o : Obj) (y : SigT) (ho : OwnG w' (nb + 1) sl' (L ++ [y])) (hg : (w.alloc o).grownBy w' sl.ownBlock) : NsW w0 nb text I (L ++ [y]) ids sl' (w'.setCell ⟨nb, 1, none⟩ sl') := by
  have hk := own_kind h.sigs
  have hn := h.base
  have hs := h.below.size
  have hnote : w'.heap[nb]? = some (.cells #[.string text, sl] 69 (0, 0)) := by
    refine (hg.block _ (by rw [size_alloc]; have := (Array.getElem?_eq_some_iff.1 h.note).1; omega) (fun e => ?_)).trans (blk_alloc h.note o)
    have := (hk _ e.symm).1
    omega
  refine ⟨?_, blk_set hnote _, ?_, ?_, h.base⟩
  · refine OwnL.of_block (OwnL.of_block (OwnL.alloc h.own o) (fun g hg2 => ?_) : OwnS w' (nb + 1) ids I) (fun g hg2 => Below.heap_setCell _ _ _ _ ?_)
    · obtain ⟨_, cs, fz, h1⟩ := own_kind (OwnL.alloc h.own o) g hg2
      refine hg.block _ (Array.getElem?_eq_some_iff.1 h1).1 (fun e => ?_)
      obtain ⟨_, cs2, fz2, h2⟩ := own_kind (OwnL.alloc h.sigs o) g e.symm
      rw [h1] at h2
      have : 9 = 54 := by injection h2 with h2; injection h2
      exact absurd this (by decide)
    · have := (OwnL.lt h.own g hg2).1
      show g ≠ nb
      omega
  · refine OwnL.of_block ho (fun g hg2 => Below.heap_setCell _ _ _ _ ?_)
    have := (OwnL.lt ho g hg2).1
    show g ≠ nb
    omega
  · exact ((h.below.alloc hs o).grown hg (by rw [size_alloc]; omega) (fun g hg2 => by have := (hk g hg2).1; omega)).setCell (p := ⟨nb, 1, none⟩) h.base _
theorem step_appLN {α : Type} {e : TypeId} {size : Nat} {mk : α → List Value} {P : Program} {w : World} {ops : Array Oper} {o : Oper} {a : Act} {K : Act → World → Prop} {Q : Exit → Act → World → Prop} {E : Prop} (hgd : o.guard = none) (sl x : Operand) (st : TypeId)
    (ho : o.op = .call { callee := .builtin .append, args := #[sl, x], argTypes := #[st, st] }) (i : TypeInfo) (z : Value) (bytes : Nat) (ht : P.underlying st = some (.slice e)) (hi : P.info? e = some i) (hz : i.zero = some z)
    (hsize : i.size = size) (hby : i.bytes = bytes) (hzs : z.cells.size = size) (hsz : 0 < size)
    (base : Nat) (v : Value) (l : List α) (hs : a.eval sl = v) (hown : OwnL e size mk w base v l) (y : α) (hmk : (mk y).length = size) (ad : Addr) (c : Nat) (hx : a.eval x = .slice (some ad) 1 c)
    (hc : ∀ j u, (mk y)[j]? = some u → w.cell? (ad.add j) = some u) (h1 : ∀ u ∈ mk y, u.oneCell' = true) (hlen : l.length + 1 ≤ 1000000000) (hb2 : bytes ≤ 100) (hbase : base ≤ w.heap.size)
    (h : ∀ v' w', OwnL e size mk w' base v' (l ++ [y]) → w.grownBy w' v.ownBlock → (v'.ownBlock = v.ownBlock ∨ v'.ownBlock = some w.heap.size) → K (a.put o.dst v') w') :
    if Region.wanted o (yielded ops a.tmps) = true then Oper.wp P o a w K Q else E := by
  have hw : Region.wanted o (yielded ops a.tmps) = true := by simp [Region.wanted, hgd]
  rw [if_pos hw]
  obtain ⟨v', w', hr, h2, h3, _, h4⟩ := run_append_own_at (P := P) w base st o.type e i z size bytes ht hi hz hsize hby hzs hsz v l.length (l.flatMap mk) hown ad 1 c (mk y) (by rw [hmk, Nat.one_mul]) hc h1 (by unfold maxLen; omega)
    (by have := Nat.mul_le_mul (show l.length + 1 ≤ 1000000000 from hlen) hb2; omega) hbase
  unfold Oper.wp execOp
  simp only [ho, resolve, invoke, builtin, Sem.run_bind, Sem.run_pure, Result.andThen_ok, List.map_toArray, List.map_cons, List.map_nil, hs, hx, hr]
  refine h v' w' ?_ h3 h4
  unfold OwnL
  rw [List.length_append, List.flatMap_append]
  simpa using h2
theorem NsW.noteAt {w0 : World} {nb : Nat} {text : ByteArray} {I : List ByteArray} {L : List SigT} {ids sl : Value} {w w' : World} (h : NsW w0 nb text I L ids sl w) (o : Obj) (hg : (w.alloc o).grownBy w' sl.ownBlock) : w'.heap[nb]? = some (.cells #[.string text, sl] 69 (0, 0)) := by
  refine (hg.block _ (by rw [size_alloc]; have := (Array.getElem?_eq_some_iff.1 h.note).1; omega) (fun e => ?_)).trans (blk_alloc h.note o)
  have := (own_kind h.sigs _ e.symm).1
  omega
/-- a byte slice that stands somewhere. -/
def BytM (w : World) (ad : Option Addr) (n : Nat) : Prop := ∀ k, k < n → ∃ pb po, ad = some ⟨pb, po, none⟩ ∧ ∃ b : Nat, b < 256 ∧ w.cell? ⟨pb, po + k, none⟩ = some (.int .u8 b)
theorem BytM.below {w w' : World} {ad : Option Addr} {n : Nat} (h : BytM w ad n) (k : Below w.heap.size w w') : BytM w' ad n := by
  intro j hj
  obtain ⟨pb, po, e, b, hb, hc⟩ := h j hj
  exact ⟨pb, po, e, b, hb, (k.cell (cell_lt hc)).trans hc⟩
theorem KeyM.addId {B : Nat} {w w' : World} {kb : Nat} {seed pub : ByteArray} {nb : Nat} {ids : Value} {I : List ByteArray} (h : KeyM B w kb seed pub) (o : Obj) (ho : OwnS w nb ids I) (hB : ∀ g, ids.ownBlock = some g → g < B) (hg : (w.alloc o).grownBy w' ids.ownBlock) : KeyM B w' kb seed pub := by
  refine h.keep fun b cs T fz hb hT => ?_
  refine (hg.block b (by rw [size_alloc]; have := (Array.getElem?_eq_some_iff.1 hb).1; omega) (fun e => ?_)).trans ((blk_alloc hb o).trans hb.symm)
  obtain ⟨_, cs2, fz2, h2⟩ := own_kind ho b e.symm
  rw [hb] at h2
  have hT2 : T = 9 := by injection h2 with h2; injection h2
  rcases hT with h | h | ⟨h, hb2⟩
  · rw [hT2] at h; exact absurd h (by decide)
  · rw [hT2] at h; exact absurd h (by decide)
  · have := hB b e.symm; omega
theorem KeyM.addSig {B : Nat} {w w' : World} {kb : Nat} {seed pub : ByteArray} {nb nn : Nat} {sl sl' : Value} {L : List SigT} {text : ByteArray} {v : Value} (h : KeyM B w kb seed pub) (o : Obj) (ho : OwnG w nb sl L) (hn : w.heap[nn]? = some (.cells #[.string text, v] 69 (0, 0))) (hg : (w.alloc o).grownBy w' sl.ownBlock) : KeyM B (w'.setCell ⟨nn, 1, none⟩ sl') kb seed pub := by
  refine h.keep fun b cs T fz hb hT => ?_
  have hbn : b ≠ nn := by
    intro e
    rw [e, hn] at hb
    have hT2 : 69 = T := by injection hb with hb; injection hb
    rcases hT with h | h | ⟨h, -⟩ <;> (rw [← hT2] at h; exact absurd h (by decide))
  refine (Below.heap_setCell _ _ _ _ hbn).trans ((hg.block b (by rw [size_alloc]; have := (Array.getElem?_eq_some_iff.1 hb).1; omega) (fun e => ?_)).trans ((blk_alloc hb o).trans hb.symm))
  obtain ⟨_, cs2, fz2, h2⟩ := own_kind ho b e.symm
  rw [hb] at h2
  have hT2 : T = 54 := by injection h2 with h2; injection h2
  rcases hT with h | h | ⟨h, -⟩ <;> (rw [hT2] at h; exact absurd h (by decide))

def seedN (k : Nat) : ByteArray := ⟨#[UInt8.ofNat (97 + k)]⟩
theorem conv_seed0 (W : World) : (convert 21 9 (.int .i32 97)).run Tryz.prog W = .ok (.string ⟨#[97]⟩) W := by kernel_rfl
theorem conv_seed1 (W : World) : (convert 21 9 (.int .i32 98)).run Tryz.prog W = .ok (.string ⟨#[98]⟩) W := by kernel_rfl
theorem conv_seed2 (W : World) : (convert 21 9 (.int .i32 99)).run Tryz.prog W = .ok (.string ⟨#[99]⟩) W := by kernel_rfl
theorem conv_seed3 (W : World) : (convert 21 9 (.int .i32 100)).run Tryz.prog W = .ok (.string ⟨#[100]⟩) W := by kernel_rfl
theorem conv_seed (k : Nat) (hk : k < 4) (W : World) : (convert 21 9 (.int .i32 (97 + (k : Int)))).run Tryz.prog W = .ok (.string (seedN k)) W := by
  have h : k = 0 ∨ k = 1 ∨ k = 2 ∨ k = 3 := by omega
  rcases h with rfl | rfl | rfl | rfl
  · exact conv_seed0 W
  · exact conv_seed1 W
  · exact conv_seed2 W
  · exact conv_seed3 W
theorem OwnS.txs {w : World} {base : Nat} {v : Value} {L : List ByteArray} (h : OwnS w base v L) : ∃ ad cap, v = .slice ad L.length cap ∧ TxM w ad L := by
  obtain ⟨ao, cap, rfl, -, -, hne⟩ := OwnL.form h
  refine ⟨ao, cap, rfl, fun i t hi => ?_⟩
  have hlt := (List.getElem?_eq_some_iff.1 hi).1
  obtain ⟨g, rfl, -, -, hcl⟩ := hne (by omega)
  refine ⟨g, 0, rfl, ?_⟩
  rw [Nat.zero_add, hcl i (by omega), flat1, List.getElem?_map, hi]
  rfl
def NsOut (w0 : World) (nb : Nat) (T : ByteArray) (ids i : Value) (wr : World) : Prop :=
  ∃ (k : Nat) (I : List ByteArray) (L : List SigT) (sl : Value), k ≤ 3 ∧ i = .int .i64 k ∧ I.length = k ∧ L.length ≤ 8 * k ∧ NsW w0 nb T I L ids sl wr
def NsIn (w0 : World) (nb : Nat) (T : ByteArray) (I : List ByteArray) (ids : Value) (k M8 B kb : Nat) (seed pub : ByteArray) (i : Value) (wr : World) : Prop :=
  ∃ (m : Nat) (L : List SigT) (sl : Value), m ≤ M8 ∧ i = .int .i64 m ∧ L.length ≤ 8 * k + m ∧ NsW w0 nb T I L ids sl wr ∧ KeyM B wr kb seed pub

set_option maxRecDepth 100000 in
set_option maxHeartbeats 4000000 in
theorem notesigned_any (o : ByteArray) (n : Int) (r : ByteArray) (bad : Option Addr) (bn bc : Nat) (need : Int) (w : World) (ho : o.size ≤ 9223372036854775807) (hr : r.size ≤ 9223372036854775807) (hbn : bn ≤ bc) (hbc : bc ≤ 9223372036854775807) (hby : BytM w bad bn) (hV : VarsV w) :
    Calls Tryz.prog 7 #[cpVal o n r, .slice bad bn bc, .int .i64 need] w fun e w' => e = .returned (.bool true) ∧ Below w.heap.size w w' := by
  have HV := Lib.hid hV
  have HBy := Lib.hid hby
  have HTe := Lib.hid (fun W hW => tells_any W hW)
  have HTx := Lib.hid (fun W hW => rtext_any o n r W ho hr hW)
  have hq : (cpV o n r).2 = 0 → (cpV o n r).1.size ≤ 200 := by
    intro h
    have h2 : cpV o n r = ((cpV o n r).1, 0) := Prod.ext rfl h
    obtain ⟨h3, h4⟩ := cpV_okN h2
    rw [h4]
    exact cpT_size o n r h3
  have HQ := Lib.hid hq
  unfold cpVal at HTx
  unfold cpVal
  generalize cpV o n r = q at HTx HQ
  have hw0 : Below w.heap.size w (w.alloc (.cells #[.string o, .int .i64 n, .string r] 28)) := (Below.refl _ _).alloc (Nat.le_refl _) _
  have hc0 : CpAt (w.alloc (.cells #[.string o, .int .i64 n, .string r] 28)) w.heap.size o n r := blk_new _ _
  clear hV hby hq
  go_enter Tryz.func7, Tryz.ntmps7
  go_wp2_with fail
  generalize w.alloc (.cells #[.string o, .int .i64 n, .string r] 28) = wa at hw0 hc0 ⊢
  refine (HTe.out wa (HV.out.below hw0)).mono ?_
  rintro e w1 ⟨rfl, hb1⟩
  have HB1 := Lib.hid (hw0.trans (hb1.mono hw0.size))
  obtain ⟨⟨x0, x1, x2⟩, -⟩ := (show CpAt w1 w.heap.size o n r from blk_later hc0 hb1).facts
  clear hw0 hc0 hb1
  go_wp2_with fail
  refine (HTx.out w1 (HV.out.below HB1.out)).mono ?_
  rintro e w2 ⟨rfl, hb2⟩
  have HB2 := Lib.hid (HB1.out.trans (hb2.mono HB1.out.size))
  clear hb2 x0 x1 x2 HTx HTe
  obtain ⟨q1, q2⟩ := q
  dsimp only
  go_upto_if 32 with fail
  go_cut [7] (fun s wx => ∃ T : ByteArray, s = .string T ∧ T.size ≤ 200 ∧ wx = w2)
  case first =>
    by_cases h0 : q2 = 0
    · have h0b : (q2 != 0) = false := by rw [h0]; rfl
      have hz := HQ.out h0
      clear h0
      go_wp2_with fail
      go_meet
      exact ⟨_, rfl, hz, rfl⟩
    · have h0b : (q2 != 0) = true := bne_iff_ne.2 h0
      clear h0
      go_wp2_with fail
      go_meet
      exact ⟨_, rfl, by decide, rfl⟩
  case rest =>
  obtain ⟨T, rfl, hT, rfl⟩ := hcut
  clear HQ
  go_wp2_with fail
  have hW0 : NsW w wc.heap.size T [] [] (.slice none 0 0) (.slice none 0 0) (wc.alloc (.cells #[.string T, .slice none 0 0] 69)) :=
    ⟨ownL_nil _ _, blk_new _ _, ownL_nil _ _, HB2.out.alloc HB2.out.size _, HB2.out.size⟩
  generalize wc.alloc (.cells #[.string T, .slice none 0 0] 69) = w3 at hW0 ⊢
  generalize wc.heap.size = nb at hW0 ⊢
  have HW0 := Lib.hid hW0
  clear hW0 HB2 HB1
  go_loopw [9, 35] (fun ids i wr => NsOut w nb T ids i wr) (fun _ i _ => 3 - (intOf i).toNat)
  case atStart => exact ⟨0, [], [], _, by decide, rfl, rfl, Nat.zero_le _, HW0.out⟩
  case round =>
    obtain ⟨k, I, L, sl, hk, rfl, hI, hL, hW⟩ := hrel
    have HW := Lib.hid hW
    have HI := Lib.hid hI
    clear hW HW0 hI
    by_cases hlt : k < 3
    · have hcv := conv_seed k (by omega)
      have hsd : (seedN k).size = 1 := rfl
      have hw97 : IntKind.i32.wrap (97 + (k : Int)) = 97 + (k : Int) := by rw [IntKind.wrap_i32]; omega
      go_wp2_with fail
      refine (rnew_any (seedN k) (by rw [hsd]; decide) wr).mono ?_
      generalize hwr0 : wr.heap.size = wr0
      rintro e w4 ⟨kb, rfl, hkey, hb4⟩
      have hps : (pubB (seedN k) 0).size = 32 := tagB_size _ _
      have hsds : (seedN k).size ≤ 1000000 := by rw [hsd]; decide
      generalize pubB (seedN k) 0 = pub at hkey hps
      generalize seedN k = seed at hkey hsds ⊢
      have HKy := Lib.hid hkey
      have HW4 := Lib.hid (HW.out.later (by rw [hwr0]; exact hb4))
      have HNb : Hid (∀ g, (u9 : Value).ownBlock = some g → g < wr0) := Lib.hid (fun g hg => by rw [← hwr0]; exact (OwnL.lt HW.out.own g hg).2)
      clear hkey hb4 HW hcv
      go_wp2_with fail
      refine (rkid_any _ kb seed pub w4 HKy.out (by omega)).mono ?_
      rintro e w5 ⟨rfl, hb5⟩
      have HKy5 := Lib.hid (HKy.out.below hb5)
      have HW5 := Lib.hid (HW4.out.later hb5)
      clear hb5 HW4 HKy
      generalize tagB 38 [oneB 0, pub] = id
      obtain ⟨i0, hi, hz0, hz1, hz2⟩ := info_parts infoStr
      have HI2 := Lib.hid hz2
      clear hz2
      go_wp2_with (first | (at_builtin; refine wpList_appL _ rfl _ _ 22 rfl i0 (.string ⟨#[]⟩) 16 Tryz.underlying22 hi hz0 hz1 HI2.out rfl (by decide) (nb + 1) _ I rfl (OwnL.alloc HW5.out.own _) id rfl ⟨w5.heap.size, 0, none⟩ 1 rfl (one_str w5 _ _) ?_ ?_ (by decide) ?_ ?_) | fail)
      · intro u hu; simp at hu; subst hu; rfl
      · have := HI.out; omega
      · rw [size_alloc]; have := (Array.getElem?_eq_some_iff.1 HW5.out.note).1; omega
      intro ids' w6 ho6 hg6 hown6
      have HW6 := Lib.hid (HW5.out.addId _ id ho6 hg6)
      have HKy6 := Lib.hid (HKy5.out.addId _ HW5.out.own HNb.out hg6)
      have HI6 : Hid ((I ++ [id]).length = k + 1) := Lib.hid (by rw [List.length_append, HI.out]; rfl)
      generalize I ++ [id] = I' at HW6 HI6
      clear ho6 hg6 hown6 HW5 HKy5 HI HNb
      obtain ⟨M8, hM8, hM9, hmin, hmax⟩ : ∃ M8 : Nat, M8 ≤ bn ∧ M8 ≤ 8 ∧ min (bn : Int) 8 = (M8 : Int) ∧ max (M8 : Int) 0 = (M8 : Int) := ⟨min bn 8, by omega, by omega, by omega, by omega⟩
      have hM10 : (M8 : Int) ≤ (bc : Int) := by omega
      have hM11 : (0 : Int) ≤ (M8 : Int) := by omega
      go_wp2_with fail
      go_loopw [57] (fun i wr => NsIn w nb T I' ids' k M8 wr0 kb seed pub i wr) (fun i _ => M8 - (intOf i).toNat)
      case atStart => exact ⟨0, L, sl, Nat.zero_le _, rfl, hL, HW6.out, HKy6.out⟩
      case round =>
        obtain ⟨m, L2, sl2, hm, rfl, hL2, hW7, hK7⟩ := hrel
        have HW7 := Lib.hid hW7
        have HK7 := Lib.hid hK7
        clear hW7 hK7 HW6 HKy6
        by_cases hlt2 : m < M8
        · obtain ⟨pb, po, rfl, b, hb, hcb⟩ := HBy.out m (by omega)
          have hcb2 : wr.cell? ⟨pb, po + m, none⟩ = some (.int .u8 b) := (HW7.out.below.cell (cell_lt hcb)).trans hcb
          have hm0 : (0 : Int) ≤ (m : Int) := by omega
          have hm1 : (m : Int) < (M8 : Int) := by omega
          have hbm : 0 ≤ (b : Int) % 8 ∧ (b : Int) % 8 < 8 := by omega
          clear hcb
          by_cases h1 : (b : Int) % 8 = (k : Int)
          · have h1b : ((b : Int) % 8 == (k : Int)) = true := beq_iff_eq.2 h1
            have h2b : ((b : Int) % 8 == (k : Int) + 3) = false := beq_eq_false_iff_ne.2 (by omega)
            have hId := rkid_any wr0 kb seed pub wr.drew (HK7.out.below ⟨rfl, rfl, rfl, Nat.le_refl _, fun _ _ => rfl⟩) (by omega)
            have hAt := fun W (hW : Below wr.heap.size wr W) => rkat_any wr0 kb seed pub T W (HK7.out.below hW) hsds (by omega)
            generalize tagB 38 [oneB 0, pub] = idv at hId
            generalize kSig seed T = sgv at hAt
            have HId := Lib.hid hId
            have HAt := Lib.hid hAt
            obtain ⟨i0, hi, hz0, hz1, hz2⟩ := info_parts infoSig
            have HI2 := Lib.hid hz2
            have p1 := cell_of_blk HW7.out.note 1 rfl
            have p2 := free_of_blk HW7.out.note 1
            have hll : L2.length + 1 ≤ 1000000000 := by omega
            have HLL := Lib.hid hll
            clear hId hAt hz2 hll
            go_wp2_with fail
            go_region_law (first
              | (refine step_appLN (by rfl) _ _ 41 (by rfl) i0 (.agg #[.string ⟨#[]⟩, .string ⟨#[]⟩]) 32 Tryz.underlying41 hi hz0 hz1 HI2.out rfl (by decide) (nb + 1) sl2 L2 (by rfl) (OwnL.alloc HW9.out.sigs _) (idv, sgv) rfl ⟨w9.heap.size, 0, none⟩ 1 (by rfl) (one_sig w9 (idv, sgv) _) (by intro u hu; simp at hu; rcases hu with rfl | rfl <;> rfl) HLL.out (by decide) (by rw [size_alloc]; have := (Array.getElem?_eq_some_iff.1 HW9.out.note).1; omega) ?_; intro v8 wz hoz hgz hvz; obtain ⟨ao8, cap8, rfl, -, -, -⟩ := OwnL.form hoz; have z1 := cell_of_blk (HW9.out.noteAt _ hgz) 1 rfl; have z2 := free_of_blk (HW9.out.noteAt _ hgz) 1)
              | (go_simp; go_at_call 20; refine HId.out.mono ?_; rintro e w8 ⟨rfl, h8⟩; have HB8 := Lib.hid (below_drew h8); have HW8 := Lib.hid (HW7.out.later (below_drew h8)); have r1 := cell_of_blk HW8.out.note 1 rfl; have r2 := free_of_blk HW8.out.note 1)
              | (go_simp; go_at_call 21; refine (HAt.out w8 HB8.out).mono ?_; rintro e w9 ⟨rfl, h9⟩; have HB9 := Lib.hid (HB8.out.trans (h9.mono HB8.out.size)); have HW9 := Lib.hid (HW8.out.later h9); have t1 := cell_of_blk HW9.out.note 1 rfl; have t2 := free_of_blk HW9.out.note 1; have t3 := fun o => cell_alloc t1 o))
            all_goals
              have hWz := HW9.out.addSig _ (idv, sgv) hoz hgz
              have hKz := (HK7.out.below HB9.out).addSig (nn := nb) (sl' := .slice ao8 (L2 ++ [(idv, sgv)]).length cap8) _ HW9.out.sigs HW9.out.note hgz
              rw [show (L2 ++ [(idv, sgv)]).length = L2.length + 1 from List.length_append] at hWz hKz
              have HWz := Lib.hid hWz
              have HKz := Lib.hid hKz
              clear hWz hKz
              clear hoz hgz hvz z1 z2
              go_wp2_with fail
              refine ⟨⟨m + 1, _, _, hlt2, rfl, ?_, HWz.out, HKz.out⟩, ?_⟩
              · rw [List.length_append]; show L2.length + 1 ≤ _; omega
              · show M8 - ((m : Int) + 1).toNat < M8 - (m : Int).toNat
                omega
          · have h1b : ((b : Int) % 8 == (k : Int)) = false := beq_eq_false_iff_ne.2 h1
            by_cases h2 : (b : Int) % 8 = (k : Int) + 3
            · have h2b : ((b : Int) % 8 == (k : Int) + 3) = true := beq_iff_eq.2 h2
              have hcat : ¬ 9223372036854775807 < T.size + 1 := by omega
              have hTx : (T ++ ⟨#[120]⟩ : ByteArray).size ≤ 100000000 := by rw [ByteArray.size_append]; show T.size + 1 ≤ _; omega
              have hId := rkid_any wr0 kb seed pub wr.drew (HK7.out.below ⟨rfl, rfl, rfl, Nat.le_refl _, fun _ _ => rfl⟩) (by omega)
              have hAt := fun W (hW : Below wr.heap.size wr W) => rkat_any wr0 kb seed pub (T ++ ⟨#[120]⟩) W (HK7.out.below hW) hsds hTx
              generalize tagB 38 [oneB 0, pub] = idv at hId
              generalize kSig seed (T ++ ⟨#[120]⟩) = sgv at hAt
              have HId := Lib.hid hId
              have HAt := Lib.hid hAt
              obtain ⟨i0, hi, hz0, hz1, hz2⟩ := info_parts infoSig
              have HI2 := Lib.hid hz2
              have p1 := cell_of_blk HW7.out.note 1 rfl
              have p2 := free_of_blk HW7.out.note 1
              have hll : L2.length + 1 ≤ 1000000000 := by omega
              have HLL := Lib.hid hll
              clear hId hAt hz2 hll
              go_wp2_with fail
              go_region_law (first
                | (refine step_appLN (by rfl) _ _ 41 (by rfl) i0 (.agg #[.string ⟨#[]⟩, .string ⟨#[]⟩]) 32 Tryz.underlying41 hi hz0 hz1 HI2.out rfl (by decide) (nb + 1) sl2 L2 (by rfl) (OwnL.alloc HW9.out.sigs _) (idv, sgv) rfl ⟨w9.heap.size, 0, none⟩ 1 (by rfl) (one_sig w9 (idv, sgv) _) (by intro u hu; simp at hu; rcases hu with rfl | rfl <;> rfl) HLL.out (by decide) (by rw [size_alloc]; have := (Array.getElem?_eq_some_iff.1 HW9.out.note).1; omega) ?_; intro v8 wz hoz hgz hvz; obtain ⟨ao8, cap8, rfl, -, -, -⟩ := OwnL.form hoz; have z1 := cell_of_blk (HW9.out.noteAt _ hgz) 1 rfl; have z2 := free_of_blk (HW9.out.noteAt _ hgz) 1)
                | (go_simp; go_at_call 20; refine HId.out.mono ?_; rintro e w8 ⟨rfl, h8⟩; have HB8 := Lib.hid (below_drew h8); have HW8 := Lib.hid (HW7.out.later (below_drew h8)); have r1 := cell_of_blk HW8.out.note 1 rfl; have r2 := free_of_blk HW8.out.note 1)
                | (go_simp; go_at_call 21; refine (HAt.out w8 HB8.out).mono ?_; rintro e w9 ⟨rfl, h9⟩; have HB9 := Lib.hid (HB8.out.trans (h9.mono HB8.out.size)); have HW9 := Lib.hid (HW8.out.later h9); have t1 := cell_of_blk HW9.out.note 1 rfl; have t2 := free_of_blk HW9.out.note 1; have t3 := fun o => cell_alloc t1 o))
              all_goals
                have hWz := HW9.out.addSig _ (idv, sgv) hoz hgz
                have hKz := (HK7.out.below HB9.out).addSig (nn := nb) (sl' := .slice ao8 (L2 ++ [(idv, sgv)]).length cap8) _ HW9.out.sigs HW9.out.note hgz
                rw [show (L2 ++ [(idv, sgv)]).length = L2.length + 1 from List.length_append] at hWz hKz
                have HWz := Lib.hid hWz
                have HKz := Lib.hid hKz
                clear hWz hKz
                clear hoz hgz hvz z1 z2
                go_wp2_with fail
                refine ⟨⟨m + 1, _, _, hlt2, rfl, ?_, HWz.out, HKz.out⟩, ?_⟩
                · rw [List.length_append]; show L2.length + 1 ≤ _; omega
                · show M8 - ((m : Int) + 1).toNat < M8 - (m : Int).toNat
                  omega
            · have h2b : ((b : Int) % 8 == (k : Int) + 3) = false := beq_eq_false_iff_ne.2 h2
              go_wp2_with fail
              refine ⟨⟨m + 1, L2, sl2, hlt2, rfl, by omega, HW7.out, HK7.out⟩, ?_⟩
              show M8 - ((m : Int) + 1).toNat < M8 - (m : Int).toNat
              omega
        · obtain rfl : m = M8 := by omega
          go_wp2_with fail
          refine ⟨⟨k + 1, I', L2, sl2, by omega, rfl, HI6.out, by omega, HW7.out⟩, ?_⟩
          show 3 - ((k : Int) + 1).toNat < 3 - (k : Int).toNat
          omega
    · obtain rfl : k = 3 := by omega
      have hI3 := HI.out
      have HW3 := HW
      obtain ⟨iad, icap, rfl, hTx⟩ := OwnS.txs HW.out.own
      have hrz := rising_any iad I icap wr hTx (by omega)
      rw [hI3] at hrz
      have HI3 := Lib.hid hI3
      clear HI hTx
      go_wp2_with fail
      refine hrz.mono ?_
      clear hI3
      rintro e w4 ⟨v, M, rfl, hMo, hMm, hMl, hb4⟩
      obtain ⟨mad, mcap, rfl, hTm⟩ := OwnS.txs hMo
      have HW4 := Lib.hid (HW.out.later hb4)
      obtain ⟨sad, scap, rfl, hSg⟩ := OwnG.sigs HW4.out.sigs
      have n0 := cell_of_blk HW4.out.note 0 rfl
      have n1 := cell_of_blk HW4.out.note 1 rfl
      have n0a := fun o => cell_alloc n0 o
      have n1a := fun o => cell_alloc n1 o
      have hbX := fun o : Obj => (Below.refl w4.heap.size w4).alloc (Nat.le_refl _) o
      have HTm := Lib.hid hTm
      have HSg := Lib.hid hSg
      have hsx : (w4.alloc (.cells #[.slice mad M.length mcap, .int .i64 need] 24)).heap[w4.heap.size]? = some (.cells #[.slice mad M.length mcap, .int .i64 need] 24 (0, 0)) := blk_new _ _
      have HSx := Lib.hid hsx
      clear hrz hMo hb4 hTm hSg hsx HW
      go_wp2_with fail
      have hWx := HW4.out.later (hbX (.cells #[.slice mad M.length mcap, .int .i64 need] 24))
      have hTx := HTm.out.below (hbX (.cells #[.slice mad M.length mcap, .int .i64 need] 24))
      have hGx := HSg.out.below (hbX (.cells #[.slice mad M.length mcap, .int .i64 need] 24))
      have hsx := HSx.out
      generalize w4.alloc (.cells #[.slice mad M.length mcap, .int .i64 need] 24) = w5 at hWx hTx hGx hsx ⊢
      generalize w4.heap.size = sb at hsx ⊢
      refine (rformat_any T sad L scap w5 (by omega) (by omega) hGx).mono ?_
      rintro e w6 ⟨rfl, hb6⟩
      have hfz := fmtV_le T L (by omega)
      generalize (fmtV T L).1 = F at hfz ⊢
      generalize (fmtV T L).2 = fe
      have hMl2 : M.length ≤ 100000000 := by have := HI3.out; omega
      have HS : ∀ W, Below w6.heap.size w6 W → SetM W ⟨mad, M.length, mcap, need⟩ (M, need) := fun W hW => ⟨rfl, rfl, (hTx.below hb6).below hW⟩
      have HBW := Lib.hid (hWx.below.trans (hb6.mono hWx.below.size))
      have hs6 := blk_later hsx hb6
      have HSc : Hid (∀ W, Below w6.heap.size w6 W → W.cell? ⟨sb, 0, none⟩ = some (.slice mad M.length mcap) ∧ W.cell? ⟨sb, 1, none⟩ = some (.int .i64 need)) := Lib.hid (fun W hW => ⟨cell_of_blk (blk_later hs6 hW) 0 rfl, cell_of_blk (blk_later hs6 hW) 1 rfl⟩)
      have HP := Lib.hid (fun W (hW : Below w6.heap.size w6 W) => signed_any F ⟨mad, M.length, mcap, need⟩ (M, need) W (by omega) (HV.out.below (HBW.out.trans (hW.mono HBW.out.size))) (HS W hW) hMl2)
      have HQ := Lib.hid (fun W (hW : Below w6.heap.size w6 W) => rsigned_any F ⟨mad, M.length, mcap, need⟩ (M, need) W (by omega) (HV.out.below (HBW.out.trans (hW.mono HBW.out.size))) (HS W hW) hMl2)
      have HX : Hid (∀ W, Below w6.heap.size w6 W → Calls Tryz.prog 32 #[.string (F ++ ⟨#[120]⟩), .agg #[.slice mad M.length mcap, .int .i64 need]] W fun e w' => e = .returned (cpTup (cp0, 3)) ∧ Below W.heap.size W w') := Lib.hid (fun W hW => by
        have h := signed_any (F ++ ⟨#[120]⟩) ⟨mad, M.length, mcap, need⟩ (M, need) W (by rw [ByteArray.size_append]; show F.size + 1 ≤ _; omega) (HV.out.below (HBW.out.trans (hW.mono HBW.out.size))) (HS W hW) hMl2
        rwa [signedP_x] at h)
      generalize signedP F (M, need) = P at HP HQ
      obtain ⟨⟨co, cn, cr⟩, pe⟩ := P
      unfold cpTup cpVal at HP HQ HX
      dsimp only [cp0] at HP HQ HX
      clear HS hWx hTx hGx hsx hs6 hb6 HW4 HTm HSg HSx n0 n1 n0a n1a hbX
      obtain ⟨g0, g1⟩ := HSc.out w6 (Below.refl _ _)
      go_wp2_with fail
      refine (HP.out w6 (Below.refl _ _)).mono ?_
      rintro e w7 ⟨rfl, hb7⟩
      have hb7c := hb7.trans ((Below.refl w7.heap.size w7).alloc (Nat.le_refl _) (.cells #[.string co, .int .i64 cn, .string cr] 28) |>.mono hb7.size)
      have hp7 : CpAt (w7.alloc (.cells #[.string co, .int .i64 cn, .string cr] 28)) w7.heap.size co cn cr := blk_new _ _
      have hg7 := HSc.out w7 hb7
      have q0 := fun o => cell_alloc hg7.1 o
      have q1 := fun o => cell_alloc hg7.2 o
      have HB7 := Lib.hid hb7c
      have HP7 := Lib.hid hp7
      clear hb7 hb7c hp7 g0 g1 HP hg7
      go_wp2_with fail
      generalize w7.alloc (.cells #[.string co, .int .i64 cn, .string cr] 28) = w8 at HB7 HP7 ⊢
      generalize w7.heap.size = pb1 at HP7 ⊢
      clear q0 q1
      refine (HQ.out w8 HB7.out).mono ?_
      rintro e w9 ⟨rfl, hb9⟩
      have hbw9 := HB7.out.trans (hb9.mono HB7.out.size)
      have hp9 : CpAt (w9.alloc (.cells #[.string co, .int .i64 cn, .string cr] 28)) pb1 co cn cr := blk_alloc (blk_later HP7.out hb9) _
      have hq9 : CpAt (w9.alloc (.cells #[.string co, .int .i64 cn, .string cr] 28)) w9.heap.size co cn cr := blk_new _ _
      have hbw9c := hbw9.trans ((Below.refl w9.heap.size w9).alloc (Nat.le_refl _) (.cells #[.string co, .int .i64 cn, .string cr] 28) |>.mono hbw9.size)
      have hg9 := HSc.out w9 hbw9
      have q0 := fun o => cell_alloc hg9.1 o
      have q1 := fun o => cell_alloc hg9.2 o
      have HB9 := Lib.hid hbw9c
      have HP9 := Lib.hid hp9
      have HQ9 := Lib.hid hq9
      have hcat : ¬ 9223372036854775807 < F.size + 1 := by omega
      clear hb9 hbw9 hbw9c hp9 hq9 hg9 HQ HB7 HP7
      go_wp2_with fail
      generalize w9.alloc (.cells #[.string co, .int .i64 cn, .string cr] 28) = wA at HB9 HP9 HQ9 ⊢
      generalize w9.heap.size = pb2 at HQ9 ⊢
      clear q0 q1
      refine (HX.out wA HB9.out).mono ?_
      rintro e wB ⟨rfl, hbB⟩
      have hbwB := HB9.out.trans (hbB.mono HB9.out.size)
      have hpB : CpAt (wB.alloc (.cells #[.string ⟨#[]⟩, .int .i64 0, .string ⟨#[]⟩] 28)) pb1 co cn cr := blk_alloc (blk_later HP9.out hbB) _
      have hqB : CpAt (wB.alloc (.cells #[.string ⟨#[]⟩, .int .i64 0, .string ⟨#[]⟩] 28)) pb2 co cn cr := blk_alloc (blk_later HQ9.out hbB) _
      have hxB : CpAt (wB.alloc (.cells #[.string ⟨#[]⟩, .int .i64 0, .string ⟨#[]⟩] 28)) wB.heap.size ⟨#[]⟩ 0 ⟨#[]⟩ := blk_new _ _
      have HBB := Lib.hid (HBW.out.trans ((hbwB.trans ((Below.refl wB.heap.size wB).alloc (Nat.le_refl _) (.cells #[.string ⟨#[]⟩, .int .i64 0, .string ⟨#[]⟩] 28) |>.mono hbwB.size)).mono HBW.out.size))
      obtain ⟨⟨a0, a1, a2⟩, -⟩ := hpB.facts
      obtain ⟨⟨b0, b1, b2⟩, -⟩ := hqB.facts
      obtain ⟨⟨d0, d1, d2⟩, -⟩ := hxB.facts
      have heq := fun W => eq_cp3 W co cr cn
      have heq0 := fun W => eq_cp3 W ⟨#[]⟩ ⟨#[]⟩ 0
      have hpe : (pe == pe) = true := beq_self_eq_true _
      clear hbB hbwB hpB hqB hxB HB9 HP9 HQ9
      go_wp2_with fail
      go_ret
      exact ⟨rfl, HBB.out⟩
end Go.Proofs.YtmejjphliaiamaaGreatDoor
