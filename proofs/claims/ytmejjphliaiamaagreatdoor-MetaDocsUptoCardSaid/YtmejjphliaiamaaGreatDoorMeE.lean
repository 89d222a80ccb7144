import Derived.Test.YtmejjphliaiamaaGreatDoorMeD
import Derived.Test.YtmejjphliaiamaaGreatDoorQuD
set_option linter.unusedVariables false
set_option linter.unusedSimpArgs false
namespace Go.Proofs.YtmejjphliaiamaaGreatDoor
open Go Go.RowKit Go.Lib

/-! ### a document's bytes -/
abbrev LayC (fl : Nat) (d : DV) (lay : WS → WS) (w0 : World) : Prop := ∀ W wb q db Lp, (db, docC d, 30) ∈ Lp → q.1.size ≤ 1000 → WG 75 w0.heap.size w0 W wb Lp q →
  Calls Tryz.prog fl #[.pointer (some ⟨db, 0, none⟩), .pointer (some ⟨wb, 0, none⟩)] W fun e w' => e = .returned (.tuple #[]) ∧ WG 75 w0.heap.size w0 w' wb Lp (lay q)
def I64 (x : Int) : Prop := -9223372036854775808 ≤ x ∧ x ≤ 9223372036854775807
set_option maxRecDepth 100000 in
theorem layts_any (d : DV) (w0 : World) (ho : I64 d.of) (hh : d.hash.size ≤ 1000000000) : LayC 105 d (fun q => pHash (wNum q d.of 2) d.hash) w0 := by
  intro W wb q db Lp hm hq hG
  have hd : DocAt W db d := (hG.par _ hm).1
  have c19 := cell_of_blk hd 19 (v := .int .i64 d.of) rfl
  have HG := Lib.hid hG
  obtain ⟨v, hv⟩ := hG.ex
  have HV := Lib.hid hv
  have HM := Lib.hid hm
  have HO := Lib.hid ho
  have hz := wNum_size q d.of 2
  clear hG hv hd hm ho
  go_enter Tryz.func105, Tryz.ntmps105
  go_wp2_with fail
  refine (pw2_any _ wb v q d.of W HO.out (by omega) HV.out).mono ?_
  rintro e w1 ⟨rfl, hk⟩
  have hg1 := HG.out.step HV.out hk
  have HG1 := Lib.hid hg1
  have hd1 : DocAt w1 db d := (hg1.par _ HM.out).1
  obtain ⟨v1, hv1⟩ := hg1.ex
  have HV1 := Lib.hid hv1
  have c20 := cell_of_blk hd1 20 (v := .string d.hash) rfl
  clear hg1 hd1 hv1 hk HG HV c19
  generalize hE : wNum q d.of 2 = q1 at hz HG1 HV1
  have HE := Lib.hid hE
  clear hE
  go_wp2_with fail
  refine (phash_any _ wb v1 q1 d.hash w1 (by omega) HV1.out).mono ?_
  rintro e w2 ⟨rfl, hk⟩
  have HG2 := Lib.hid (HG1.out.step HV1.out hk)
  clear hk
  go_wp2_with fail
  go_end0
  exact ⟨rfl, HE.out ▸ HG2.out⟩
def hdr (d : DV) : WS := wNum (wNum (wNum (⟨#[]⟩, false) d.kind 1) d.ver 2) d.exp 8
def encP (d : DV) (c : Int) (lay : WS → WS) : ByteArray × Int := if c = 0 then wOut (lay (hdr d)) else (⟨#[]⟩, c)
theorem hdr_sizes (d : DV) : (wNum (⟨#[]⟩, false) d.kind 1).1.size ≤ 1 ∧ (wNum (wNum (⟨#[]⟩, false) d.kind 1) d.ver 2).1.size ≤ 3 ∧ (hdr d).1.size ≤ 11 := by
  have h1 := wNum_size (⟨#[]⟩, false) d.kind 1
  have h2 := wNum_size (wNum (⟨#[]⟩, false) d.kind 1) d.ver 2
  have h3 : (hdr d).1.size ≤ _ := wNum_size (wNum (wNum (⟨#[]⟩, false) d.kind 1) d.ver 2) d.exp 8
  have h0 : ((⟨#[]⟩ : ByteArray), false).1.size = 0 := rfl
  omega

set_option maxRecDepth 100000 in
set_option maxHeartbeats 4000000 in
theorem encode_form (fg fl ft fz : Nat) (d : DV) (c : Int) (lay : WS → WS) (w : World) (el : Ent fl) (hf : FormC d.kind fg fl ft fz) (hc : ∀ W, Below w.heap.size w W → Calls Tryz.prog 10 #[docV d] W fun e w' => e = .returned (.int .i64 c) ∧ Below W.heap.size W w')
    (hl : LayC fl d lay w) (hk : I64 d.kind) (hv : I64 d.ver) (hx : I64 d.exp) :
    Calls Tryz.prog 9 #[docV d] w fun e w' => e = .returned (.tuple #[.string (encP d c lay).1, .int .i64 (encP d c lay).2]) ∧ Below w.heap.size w w' := by
  obtain ⟨z1, z2, z3⟩ := hdr_sizes d
  have hd : DocAt (w.alloc (.cells (docC d) 30)) w.heap.size d := blk_new _ _
  have hB : Below w.heap.size w (w.alloc (.cells (docC d) 30)) := (Below.refl _ w).alloc (Nat.le_refl _) _
  obtain ⟨w1, hw1⟩ : ∃ w1, w1 = w.alloc (.cells (docC d) 30) := ⟨_, rfl⟩
  rw [← hw1] at hd hB
  have HC := hc w1 hB
  unfold docV at HC ⊢
  have HC2 := Lib.hid HC
  clear HC
  have hD0 : DocAt (w.alloc (.cells (docC d) 30)) w.heap.size d := hw1 ▸ hd
  have HD0 := Lib.hid hD0
  obtain ⟨R, hR⟩ : ∃ R, R = encP d c lay := ⟨_, rfl⟩
  rw [← hR]
  unfold encP at hR
  have HR := Lib.hid hR
  have HD := Lib.hid hd
  have HB := Lib.hid hB
  have HF := Lib.hid hf
  have HL := Lib.hid hl
  have HK := Lib.hid hk
  have HV := Lib.hid hv
  have HX := Lib.hid hx
  unfold FormC formF at HF
  clear hR hd hB hf hl hD0 hc hk hv hx
  go_enter Tryz.func9, Tryz.ntmps9
  go_wp2_with (first | refine wpList_doc rfl _ rfl w.heap.size d rfl HD0.out ?_ | fail)
  rw [← hw1]
  clear hw1 HD0
  refine HC2.out.mono ?_
  rintro e w2 ⟨rfl, hb2⟩
  have HD2 := Lib.hid (HD.out.later hb2)
  have HB2 := Lib.hid (HB.out.trans (hb2.mono HB.out.size))
  clear hb2 HB HD HC2
  by_cases hc0 : c = 0
  case neg =>
    have b1 : (c == 0) = false := beq_eq_false_iff_ne.2 hc0
    have b2 : (c != 0) = true := by rw [bne, b1]; rfl
    obtain rfl : R = (⟨#[]⟩, c) := by rw [HR.out, if_neg hc0]
    clear hc0
    go_wp2_with fail
    go_ret2
    exact ⟨rfl, HB2.out⟩
  subst hc0
  have hR : R = wOut (lay (hdr d)) := by rw [HR.out, if_pos rfl]
  obtain ⟨q3, hq3⟩ : ∃ q3, q3 = lay (hdr d) := ⟨_, rfl⟩
  rw [← hq3] at hR
  obtain rfl := hR
  have HQ3 := Lib.hid hq3
  clear HR hq3
  have g0 := wg_new 75 (L := [(w.heap.size, docC d, 30)]) HB2.out HB2.out.size (fun x hx => by obtain rfl := List.mem_singleton.1 hx; exact ⟨HD2.out, show 30 ≠ 5 by decide⟩)
  obtain ⟨w3, hw3⟩ : ∃ w3, w3 = w2.alloc (.cells #[.slice none 0 0, .bool false] 75) := ⟨_, rfl⟩
  have c0 : (w2.alloc (.cells #[.slice none 0 0, .bool false] 75)).cell? ⟨w.heap.size, 0, none⟩ = some (.int .i64 d.kind) := cell_of_blk (g0.par _ (List.mem_singleton.2 rfl)).1 0 (v := .int .i64 d.kind) rfl
  rw [← hw3] at g0
  have G1 := Lib.hid g0
  obtain ⟨v1, hv⟩ := g0.ex
  have HV1 := Lib.hid hv
  clear g0 hv
  go_wp2_with fail
  rw [← hw3]
  clear hw3 c0
  have y0 : ((⟨#[]⟩ : ByteArray), false).1.size = 0 := rfl
  refine (pw1_any _ _ v1 _ d.kind _ HK.out (by omega) HV1.out).mono ?_
  rintro e w4 ⟨rfl, hk⟩
  have hg := G1.out.step HV1.out hk
  have G2 : Hid (WG 75 w.heap.size w w4 w2.heap.size [(w.heap.size, docC d, 30)] (wNum (⟨#[]⟩, false) d.kind 1)) := Lib.hid hg
  have hd2 : DocAt w4 w.heap.size d := (hg.par _ (List.mem_singleton.2 rfl)).1
  have c1 := cell_of_blk hd2 1 (v := .int .i64 d.ver) rfl
  obtain ⟨v2, hv⟩ := hg.ex
  have HV2 := Lib.hid hv
  clear hk hg hv hd2 G1 HV1
  go_wp2_with fail
  clear c1
  refine (pw2_any _ _ v2 _ d.ver _ HV.out (by omega) HV2.out).mono ?_
  rintro e w5 ⟨rfl, hk⟩
  have hg := G2.out.step HV2.out hk
  have G3 : Hid (WG 75 w.heap.size w w5 w2.heap.size [(w.heap.size, docC d, 30)] (wNum (wNum (⟨#[]⟩, false) d.kind 1) d.ver 2)) := Lib.hid hg
  have hd3 : DocAt w5 w.heap.size d := (hg.par _ (List.mem_singleton.2 rfl)).1
  have c2 := cell_of_blk hd3 2 (v := .int .i64 d.exp) rfl
  obtain ⟨v3, hv⟩ := hg.ex
  have HV3 := Lib.hid hv
  clear hk hg hv hd3 G2 HV2
  go_wp2_with fail
  clear c2
  refine (pw8_any _ _ v3 _ d.exp _ HX.out (by omega) HV3.out).mono ?_
  rintro e w6 ⟨rfl, hk⟩
  have hg := G3.out.step HV3.out hk
  have G4 : Hid (WG 75 w.heap.size w w6 w2.heap.size [(w.heap.size, docC d, 30)] (hdr d)) := Lib.hid hg
  have hd4 : DocAt w6 w.heap.size d := (hg.par _ (List.mem_singleton.2 rfl)).1
  have c0 := cell_of_blk hd4 0 (v := .int .i64 d.kind) rfl
  obtain ⟨v4, hv⟩ := hg.ex
  have HV4 := Lib.hid hv
  clear hk hg hv hd4 G3 HV3
  go_wp2_with fail
  clear c0
  clear y0 z1 z2
  generalize hdr d = q0 at z3 G4 HV4 HQ3
  refine (HF.out w6).mono ?_
  rintro e w7 ⟨rfl, hb⟩
  have hg5 := G4.out.later hb
  have G5 := Lib.hid hg5
  obtain ⟨w8, hw8⟩ : ∃ w8, w8 = w7.alloc (.cells #[.func (.func fg) #[] #[], .func (.func fl) #[] #[], .func (.func ft) #[] #[], .func (.func fz) #[] #[]] 82) := ⟨_, rfl⟩
  have hg6 := hg5.push #[.func (.func fg) #[] #[], .func (.func fl) #[] #[], .func (.func ft) #[] #[], .func (.func fz) #[] #[]] 82 (by decide) hg5.below.size
  have f1' : (w7.alloc (.cells #[.func (.func fg) #[] #[], .func (.func fl) #[] #[], .func (.func ft) #[] #[], .func (.func fz) #[] #[]] 82)).cell? ⟨w7.heap.size, 1, none⟩ = some (.func (.func fl) #[] #[]) := cell_of_blk (blk_new w7 _) 1 (v := .func (.func fl) #[] #[]) rfl
  rw [← hw8] at hg6
  have G6 := Lib.hid hg6
  obtain ⟨n0, f0⟩ := form_new w7 0 (by decide)
  obtain ⟨n1, f1⟩ := form_new w7 1 (by decide)
  obtain ⟨n2, f2⟩ := form_new w7 2 (by decide)
  obtain ⟨n3, f3⟩ := form_new w7 3 (by decide)
  clear hb hg5 hg6 G5 G4 HV4 HF
  go_wp2_with fail
  rw [← hw8]
  clear hw8 n0 n1 n2 n3 f0 f1 f2 f3 f1'
  refine (HL.out w8 w2.heap.size q0 w.heap.size _ (List.mem_cons_of_mem _ (List.mem_singleton.2 rfl)) (by omega) G6.out).mono ?_
  rintro e w9 ⟨rfl, hg7⟩
  rw [← HQ3.out] at hg7
  have G7 := Lib.hid hg7
  obtain ⟨v7, hv⟩ := hg7.ex
  have HV7 := Lib.hid hv
  clear hg7 hv G6 HL HQ3
  go_wp2_with fail
  refine (pbytes_any _ _ v7 q3 w9 HV7.out).mono ?_
  rintro e w5 ⟨rfl, rfl⟩
  go_wp2_with fail
  go_ret2
  exact ⟨rfl, G7.out.below⟩
end Go.Proofs.YtmejjphliaiamaaGreatDoor
