import Derived.Test.YtmejjphliaiamaaGreatDoorMeD
import Derived.Test.YtmejjphliaiamaaGreatDoorQuD
set_option linter.unusedVariables false
set_option linter.unusedSimpArgs false
namespace Go.Proofs.YtmejjphliaiamaaGreatDoor
open Go Go.RowKit Go.Lib

/-! ### a document's bytes -/
abbrev LayC (fl : Nat) (d : DV) (lay : WS → WS) (w0 : World) : Prop := ∀ W wb q db Lp, (db, docC d, 30) ∈ Lp → q.1.size ≤ 1000 → WG 75 w0.heap.size w0 W wb Lp q →
  Calls Tryz.prog fl #[.pointer (some ⟨db, 0, none⟩), .pointer (some ⟨wb, 0, none⟩)] W fun e w' => e = .returned (.tuple #[]) ∧ WG 75 w0.heap.size w0 w' wb Lp (lay q)
def I64 (x : Int) : Prop := -9223372036854775808 ≤ x ∧ x ≤ 9223372036854775807
set_option maxRecDepth 100000 in
theorem layts_any (d : DV) (w0 : World) (ho : I64 d.of) (hh : d.hash.size ≤ 1000000000) : LayC 105 d (fun q => pHash (wNum q d.of 2) d.hash) w0 := by
  intro W wb q db Lp hm hq hG
  have hd : DocAt W db d := (hG.par _ hm).1
  have c19 := cell_of_blk hd 19 (v := .int .i64 d.of) rfl
  have HG := Lib.hid hG
  obtain ⟨v, hv⟩ := hG.ex
  have HV := Lib.hid hv
  have HM := Lib.hid hm
  have HO := Lib.hid ho
  have hz := wNum_size q d.of 2
  clear hG hv hd hm ho
  go_enter Tryz.func105, Tryz.ntmps105
  go_wp2_with fail
  refine (pw2_any _ wb v q d.of W HO.out (by omega) HV.out).mono ?_
  rintro e w1 ⟨rfl, hk⟩
  have hg1 := HG.out.step HV.out hk
  have HG1 := Lib.hid hg1
  have hd1 : DocAt w1 db d := (hg1.par _ HM.out).1
  obtain ⟨v1, hv1⟩ := hg1.ex
  have HV1 := Lib.hid hv1
  have c20 := cell_of_blk hd1 20 (v := .string d.hash) rfl
  clear hg1 hd1 hv1 hk HG HV c19
  generalize hE : wNum q d.of 2 = q1 at hz HG1 HV1
  have HE := Lib.hid hE
  clear hE
  go_wp2_with fail
  refine (phash_any _ wb v1 q1 d.hash w1 (by omega) HV1.out).mono ?_
  rintro e w2 ⟨rfl, hk⟩
  have HG2 := Lib.hid (HG1.out.step HV1.out hk)
  clear hk
  go_wp2_with fail
  go_end0
  exact ⟨rfl, HE.out ▸ HG2.out⟩
def hdr (d : DV) : WS := wNum (wNum (wNum (⟨#[]⟩, false) d.kind 1) d.ver 2) d.exp 8
def encP (d : DV) (c : Int) (lay : WS → WS) : ByteArray × Int := if c = 0 then wOut (lay (hdr d)) else (⟨#[]⟩, c)
theorem hdr_sizes (d : DV) : (wNum (⟨#[]⟩, false) d.kind 1).1.size ≤ 1 ∧ (wNum (wNum (⟨#[]⟩, false) d.kind 1) d.ver 2).1.size ≤ 3 ∧ (hdr d).1.size ≤ 11 := by
  have h1 := wNum_size (⟨#[]⟩, false) d.kind 1
  have h2 := wNum_size (wNum (⟨#[]⟩, false) d.kind 1) d.ver 2
  have h3 : (hdr d).1.size ≤ _ := wNum_size (wNum (wNum (⟨#[]⟩, false) d.kind 1) d.ver 2) d.exp 8
  have h0 : ((⟨#[]⟩ : ByteArray), false).1.size = 0 := rfl
  omega

set_option maxRecDepth 100000 in
set_option maxHeartbeats 4000000 in
theorem encode_form (fg fl ft fz : Nat) (d : DV) (c : Int) (lay : WS → WS) (w : World) (el : Ent fl) (hf : FormC d.kind fg fl ft fz) (hc : ∀ W, Below w.heap.size w W → Calls Tryz.prog 10 #[docV d] W fun e w' => e = .returned (.int .i64 c) ∧ Below W.heap.size W w')
    (hl : LayC fl d lay w) (hk : I64 d.kind) (hv : I64 d.ver) (hx : I64 d.exp) :
    Calls Tryz.prog 9 #[docV d] w fun e w' => e = .returned (.tuple #[.string (encP d c lay).1, .int .i64 (encP d c lay).2]) ∧ Below w.heap.size w w' := by
  obtain ⟨z1, z2, z3⟩ := hdr_sizes d
  have hd : DocAt (w.alloc (.cells (docC d) 30)) w.heap.size d := blk_new _ _
  have hB : Below w.heap.size w (w.alloc (.cells (docC d) 30)) := (Below.refl _ w).alloc (Nat.le_refl _) _
  obtain ⟨w1, hw1⟩ : ∃ w1, w1 = w.alloc (.cells (docC d) 30) := ⟨_, rfl⟩
  rw [← hw1] at hd hB
  have HC := hc w1 hB
  unfold docV at HC ⊢
  have HC2 := Lib.hid HC
  clear HC
  have hD0 : DocAt (w.alloc (.cells (docC d) 30)) w.heap.size d := hw1 ▸ hd
  have HD0 := Lib.hid hD0
  obtain ⟨R, hR⟩ : ∃ R, R = encP d c lay := ⟨_, rfl⟩
  rw [← hR]
  unfold encP at hR
  have HR := Lib.hid hR
  have HD := Lib.hid hd
  have HB := Lib.hid hB
  have HF := Lib.hid hf
  have HL := Lib.hid hl
  have HK := Lib.hid hk
  have HV := Lib.hid hv
  have HX := Lib.hid hx
  unfold FormC formF at HF
  clear hR hd hB hf hl hD0 hc hk hv hx
  go_enter Tryz.func9, Tryz.ntmps9
  go_wp2_with (first | refine wpList_doc rfl _ rfl w.heap.size d rfl HD0.out ?_ | fail)
  rw [← hw1]
  clear hw1 HD0
  refine HC2.out.mono ?_
  rintro e w2 ⟨rfl, hb2⟩
  have HD2 := Lib.hid (HD.out.later hb2)
  have HB2 := Lib.hid (HB.out.trans (hb2.mono HB.out.size))
  clear hb2 HB HD HC2
  by_cases hc0 : c = 0
  case neg =>
    have b1 : (c == 0) = false := beq_eq_false_iff_ne.2 hc0
    have b2 : (c != 0) = true := by rw [bne, b1]; rfl
    obtain rfl : R = (⟨#[]⟩, c) := by rw [HR.out, if_neg hc0]
    clear hc0
    go_wp2_with fail
    go_ret2
    exact ⟨rfl, HB2.out⟩
  subst hc0
  have hR : R = wOut (lay (hdr d)) := by rw [HR.out, if_pos rfl]
  obtain ⟨q3, hq3⟩ : ∃ q3, q3 = lay (hdr d) := ⟨_, rfl⟩
  rw [← hq3] at hR
  obtain rfl := hR
  have HQ3 := Lib.hid hq3
  clear HR hq3
  have g0 := wg_new 75 (L := [(w.heap.size, docC d, 30)]) HB2.out HB2.out.size (fun x hx => by obtain rfl := List.mem_singleton.1 hx; exact ⟨HD2.out, show 30 ≠ 5 by decide⟩)
  obtain ⟨w3, hw3⟩ : ∃ w3, w3 = w2.alloc (.cells #[.slice none 0 0, .bool false] 75) := ⟨_, rfl⟩
  have c0 : (w2.alloc (.cells #[.slice none 0 0, .bool false] 75)).cell? ⟨w.heap.size, 0, none⟩ = some (.int .i64 d.kind) := cell_of_blk (g0.par _ (List.mem_singleton.2 rfl)).1 0 (v := .int .i64 d.kind) rfl
  rw [← hw3] at g0
  have G1 := Lib.hid g0
  obtain ⟨v1, hv⟩ := g0.ex
  have HV1 := Lib.hid hv
  clear g0 hv
  go_wp2_with fail
  rw [← hw3]
  clear hw3 c0
  have y0 : ((⟨#[]⟩ : ByteArray), false).1.size = 0 := rfl
  refine (pw1_any _ _ v1 _ d.kind _ HK.out (by omega) HV1.out).mono ?_
  rintro e w4 ⟨rfl, hk⟩
  have hg := G1.out.step HV1.out hk
  have G2 : Hid (WG 75 w.heap.size w w4 w2.heap.size [(w.heap.size, docC d, 30)] (wNum (⟨#[]⟩, false) d.kind 1)) := Lib.hid hg
  have hd2 : DocAt w4 w.heap.size d := (hg.par _ (List.mem_singleton.2 rfl)).1
  have c1 := cell_of_blk hd2 1 (v := .int .i64 d.ver) rfl
  obtain ⟨v2, hv⟩ := hg.ex
  have HV2 := Lib.hid hv
  clear hk hg hv hd2 G1 HV1
  go_wp2_with fail
  clear c1
  refine (pw2_any _ _ v2 _ d.ver _ HV.out (by omega) HV2.out).mono ?_
  rintro e w5 ⟨rfl, hk⟩
  have hg := G2.out.step HV2.out hk
  have G3 : Hid (WG 75 w.heap.size w w5 w2.heap.size [(w.heap.size, docC d, 30)] (wNum (wNum (⟨#[]⟩, false) d.kind 1) d.ver 2)) := Lib.hid hg
  have hd3 : DocAt w5 w.heap.size d := (hg.par _ (List.mem_singleton.2 rfl)).1
  have c2 := cell_of_blk hd3 2 (v := .int .i64 d.exp) rfl
  obtain ⟨v3, hv⟩ := hg.ex
  have HV3 := Lib.hid hv
  clear hk hg hv hd3 G2 HV2
  go_wp2_with fail
  clear c2
  refine (pw8_any _ _ v3 _ d.exp _ HX.out (by omega) HV3.out).mono ?_
  rintro e w6 ⟨rfl, hk⟩
  have hg := G3.out.step HV3.out hk
  have G4 : Hid (WG 75 w.heap.size w w6 w2.heap.size [(w.heap.size, docC d, 30)] (hdr d)) := Lib.hid hg
  have hd4 : DocAt w6 w.heap.size d := (hg.par _ (List.mem_singleton.2 rfl)).1
  have c0 := cell_of_blk hd4 0 (v := .int .i64 d.kind) rfl
  obtain ⟨v4, hv⟩ := hg.ex
  have HV4 := Lib.hid hv
  clear hk hg hv hd4 G3 HV3
  go_wp2_with fail
  clear c0
  clear y0 z1 z2
  generalize hdr d = q0 at z3 G4 HV4 HQ3
  refine (HF.out w6).mono ?_
  rintro e w7 ⟨rfl, hb⟩
  have hg5 := G4.out.later hb
  have G5 := Lib.hid hg5
  obtain ⟨w8, hw8⟩ : ∃ w8, w8 = w7.alloc (.cells #[.func (.func fg) #[] #[], .func (.func fl) #[] #[], .func (.func ft) #[] #[], .func (.func fz) #[] #[]] 82) := ⟨_, rfl⟩
  have hg6 := hg5.push #[.func (.func fg) #[] #[], .func (.func fl) #[] #[], .func (.func ft) #[] #[], .func (.func fz) #[] #[]] 82 (by decide) hg5.below.size
  have f1' : (w7.alloc (.cells #[.func (.func fg) #[] #[], .func (.func fl) #[] #[], .func (.func ft) #[] #[], .func (.func fz) #[] #[]] 82)).cell? ⟨w7.heap.size, 1, none⟩ = some (.func (.func fl) #[] #[]) := cell_of_blk (blk_new w7 _) 1 (v := .func (.func fl) #[] #[]) rfl
  rw [← hw8] at hg6
  have G6 := Lib.hid hg6
  obtain ⟨n0, f0⟩ := form_new w7 0 (by decide)
  obtain ⟨n1, f1⟩ := form_new w7 1 (by decide)
  obtain ⟨n2, f2⟩ := form_new w7 2 (by decide)
  obtain ⟨n3, f3⟩ := form_new w7 3 (by decide)
  clear hb hg5 hg6 G5 G4 HV4 HF
  go_wp2_with fail
  rw [← hw8]
  clear hw8 n0 n1 n2 n3 f0 f1 f2 f3 f1'
  refine (HL.out w8 w2.heap.size q0 w.heap.size _ (List.mem_cons_of_mem _ (List.mem_singleton.2 rfl)) (by omega) G6.out).mono ?_
  rintro e w9 ⟨rfl, hg7⟩
  rw [← HQ3.out] at hg7
  have G7 := Lib.hid hg7
  obtain ⟨v7, hv⟩ := hg7.ex
  have HV7 := Lib.hid hv
  clear hg7 hv G6 HL HQ3
  go_wp2_with fail
  refine (pbytes_any _ _ v7 q3 w9 HV7.out).mono ?_
  rintro e w5 ⟨rfl, rfl⟩
  go_wp2_with fail
  go_ret2
  exact ⟨rfl, G7.out.below⟩

/-! ### a document out of its bytes -/
def sz : SV := ⟨none, 0, 0, 0⟩
def dz : DV := ⟨0, 0, 0, sz, sz, sz, sz, sz, ⟨#[]⟩, ⟨#[]⟩, none, 0, 0, ⟨#[]⟩, 0, ⟨#[]⟩, 0, ⟨#[]⟩⟩
theorem wpList_docst {ops : Array Oper} {rest : List Oper} {o : Oper} {a : Act} {w : World} {Q : Exit → Act → World → Prop} (hgd : o.guard = none) (x y : Operand) (ho : o.op = .store 30 x y) (b : Nat) (d d' : DV) (hx : a.eval x = .pointer (some ⟨b, 0, none⟩)) (hy : a.eval y = .agg (docC d')) (h : DocAt w b d)
    (k : wpList Tryz.prog ops Q rest (a.put o.dst undef) (w.setRow b (docC d'))) : wpList Tryz.prog ops Q (o :: rest) a w :=
  wpList_store_row hgd _ x y ho b (docC d') hx hy 30 (docC d) h (docI d') rfl (docO d') k
theorem wpList_docg {ops : Array Oper} {rest : List Oper} {o : Oper} {a : Act} {w : World} {Q : Exit → Act → World → Prop} (hgd : Region.wanted o (yielded ops a.tmps) = true) (x : Operand) (ho : o.op = .load 30 x) (b : Nat) (d : DV) (hx : a.eval x = .pointer (some ⟨b, 0, none⟩)) (h : DocAt w b d)
    (k : wpList Tryz.prog ops Q rest (a.put o.dst (.agg (docC d))) w) : wpList Tryz.prog ops Q (o :: rest) a w := by
  unfold wpList
  rw [if_pos hgd]
  exact .inl (wp_load_row _ x ho b hx _ (docC d) (0, 0) _ h docU rfl (docI d) k)
theorem step_docld {ops : Array Oper} {o : Oper} {a : Act} {w : World} {K : Act → World → Prop} {Q : Exit → Act → World → Prop} {E : Prop} (hgd : o.guard = none) (x : Operand) (ho : o.op = .load 30 x) (b : Nat) (d : DV) (hx : a.eval x = .pointer (some ⟨b, 0, none⟩)) (h : DocAt w b d)
    (k : K (a.put o.dst (.agg (docC d))) w) : if Region.wanted o (yielded ops a.tmps) = true then Oper.wp Tryz.prog o a w K Q else E := by
  have hw : Region.wanted o (yielded ops a.tmps) = true := by simp [Region.wanted, hgd]
  rw [if_pos hw]
  exact wp_load_row _ x ho b hx _ (docC d) (0, 0) _ h docU rfl (docI d) k
theorem step_docst {ops : Array Oper} {o : Oper} {a : Act} {w : World} {K : Act → World → Prop} {Q : Exit → Act → World → Prop} {E : Prop} (hgd : o.guard = none) (x y : Operand) (ho : o.op = .store 30 x y) (b : Nat) (d d' : DV) (hx : a.eval x = .pointer (some ⟨b, 0, none⟩)) (hy : a.eval y = .agg (docC d')) (h : DocAt w b d)
    (k : K (a.put o.dst undef) (w.setRow b (docC d'))) : if Region.wanted o (yielded ops a.tmps) = true then Oper.wp Tryz.prog o a w K Q else E := by
  have hw : Region.wanted o (yielded ops a.tmps) = true := by simp [Region.wanted, hgd]
  rw [if_pos hw]
  exact wp_store_row _ x y ho b (docC d') hx hy 30 (docC d) h (docI d') rfl (docO d') k
theorem doc_setRow {w : World} {b : Nat} {d : DV} (h : DocAt w b d) (d' : DV) : DocK b d' w (w.setRow b (docC d')) := by
  refine ⟨setRow_heap w b _ _ _ _ h, rfl, rfl, rfl, by simp, fun k hk hb => setRow_other w b k _ hb⟩
theorem doc_ret {fn : Func} {Q : Ending → World → Prop} (a : Act) (w : World) (b : Nat) (d : DV) (e : Int) (h : DocAt w b d)
    (hf : fn.results = #[.cell 2 30, .tmp 3])
    (ha : a.tmps[2]?.getD undef = .pointer (some ⟨b, 0, none⟩)) (hc : a.tmps[3]?.getD undef = .int .i64 e) (hd : a.defers = []) (hQ : Q (.returned (.tuple #[.agg (docC d), .int .i64 e])) w) :
    bodyPost Tryz.prog fn Q Exit.ret a w := by
  refine bodyPost_ret (v := .tuple #[.agg (docC d), .int .i64 e]) ?_ hd hQ
  have hl : (loadVar 30 ⟨b, 0, none⟩).run Tryz.prog w = .ok (.agg (docC d)) w := run_loadVar_row w b _ _ (docC d) (0, 0) _ h docU rfl (docI d)
  simp [results, hf, ha, hc, asAddr, hl]

structure DcB (w W : World) (rb db : Nat) (r : RS) (d : DV) : Prop where
  out : DocAt W w.heap.size dz
  rd : Rdr 136 W rb r
  doc : DocAt W db d
  below : Below w.heap.size w W
  hr : w.heap.size < rb
  hd : rb < db
theorem DcB.read {w W W' : World} {rb db : Nat} {r r' : RS} {d : DV} (H : DcB w W rb db r d) (k : RdP 136 rb r' W W') : DcB w W' rb db r' d :=
  ⟨blk_kp H.out k.2 (Nat.ne_of_lt H.hr), k.1, blk_kp H.doc k.2 (Nat.ne_of_gt H.hd), H.below.trans (k.2.toBelow H.below.size (fun i hi => by have := H.hr; omega)), H.hr, H.hd⟩
theorem DcB.set {w W W' : World} {rb db : Nat} {r : RS} {d d' : DV} (H : DcB w W rb db r d) (k : DocK db d' W W') : DcB w W' rb db r d' :=
  ⟨blk_kp H.out k.2 (by have := H.hr; have := H.hd; omega), blk_kp H.rd k.2 (Nat.ne_of_lt H.hd), k.1, H.below.trans (k.2.toBelow H.below.size (fun i hi => by have := H.hr; have := H.hd; omega)), H.hr, H.hd⟩
theorem DcB.later {w W W' : World} {rb db : Nat} {r : RS} {d : DV} (H : DcB w W rb db r d) (k : Below W.heap.size W W') : DcB w W' rb db r d :=
  ⟨blk_later H.out k, blk_later H.rd k, blk_later H.doc k, H.below.trans (k.mono H.below.size), H.hr, H.hd⟩
theorem DcB.take {w W W' : World} {rb db : Nat} {r r' : RS} {d d' : DV} (H : DcB w W rb db r d) (h1 : DocAt W' db d') (h2 : Rdr 136 W' rb r') (k : Kp (fun k => k = db ∨ k = rb) W W') : DcB w W' rb db r' d' :=
  ⟨blk_kp H.out k (by have := H.hr; have := H.hd; omega), h2, h1, H.below.trans (k.toBelow H.below.size (fun i hi => by have := H.hr; have := H.hd; omega)), H.hr, H.hd⟩
def d1K (k : Int) : DV := { dz with kind := k }
theorem DcB.ver {w W : World} {rb db : Nat} {r : RS} {d : DV} (H : DcB w W rb db r d) (x : Int) : DcB w (W.setCell ⟨db, 1, none⟩ (.int .i64 x)) rb db r { d with ver := x } :=
  H.set ⟨blk_set H.doc _, (Kp.refl (fun k => k = db) W).setCell (p := ⟨db, 1, none⟩) (.inl rfl) _⟩
theorem DcB.exp {w W : World} {rb db : Nat} {r : RS} {d : DV} (H : DcB w W rb db r d) (x : Int) : DcB w (W.setCell ⟨db, 2, none⟩ (.int .i64 x)) rb db r { d with exp := x } :=
  H.set ⟨blk_set H.doc _, (Kp.refl (fun k => k = db) W).setCell (p := ⟨db, 2, none⟩) (.inl rfl) _⟩
def rA (s : ByteArray) : Int × RS := rNum (s, 0) 1
def rB (s : ByteArray) : Int × RS := rNum (rA s).2 2
def rC (s : ByteArray) : Int × RS := rEight (rB s).2
def dHead (s : ByteArray) : DV := { dz with kind := (rA s).1, ver := (rB s).1, exp := (rC s).1 }
theorem rC_size (s : ByteArray) : (rA s).2.1.size ≤ s.size ∧ (rB s).2.1.size ≤ s.size ∧ (rC s).2.1.size ≤ s.size := by
  have h1 : (rA s).2.1.size ≤ s.size := (rRaw_size (s, 0) 1).2
  have h2 : (rB s).2.1.size ≤ (rA s).2.1.size := (rRaw_size (rA s).2 2).2
  have h3 : (rC s).2.1.size ≤ (rB s).2.1.size := by
    unfold rC rEight
    split
    · have := (rRaw_size (rFail (rB s).2 3) 8).2
      rw [rFail_size] at this
      exact this
    · exact (rRaw_size (rB s).2 8).2
  omega
abbrev TakeC (ft : Nat) (d0 : DV) (r3 r4 : RS) (Pd : DV → World → Prop) (w : World) : Prop := ∀ W db rb, Below w.heap.size w W → DocAt W db d0 → Rdr 136 W rb r3 → w.heap.size < rb → rb < db →
  Calls Tryz.prog ft #[.pointer (some ⟨db, 0, none⟩), .pointer (some ⟨rb, 0, none⟩)] W fun e w' => e = .returned (.tuple #[]) ∧ ∃ d', Pd d' w' ∧ DocAt w' db d' ∧ Rdr 136 w' rb r4 ∧ Kp (fun k => k = db ∨ k = rb) W w'
def decE (r4 : RS) (c : Int) : Int := if (rEnd r4).2 ≠ 0 ∨ c ≠ 0 then 3 else 0
def DecPost (E : Int) (Pd : DV → World → Prop) (w : World) (e : Ending) (w' : World) : Prop := ∃ d', e = .returned (.tuple #[.agg (docC d'), .int .i64 E]) ∧ (if E = 0 then Pd d' w' else d' = dz) ∧ Below w.heap.size w w'

set_option maxRecDepth 100000 in
set_option maxHeartbeats 4000000 in
theorem decode_form (fg fl ft fz : Nat) (s : ByteArray) (r4 : RS) (c : Int) (Pd : DV → World → Prop) (w : World) (hs : s.size ≤ 1000000000) (h4 : r4.1.size ≤ 1000000000) (et : Ent ft) (hf : FormC (rA s).1 fg fl ft fz)
    (ht : TakeC ft (dHead s) (rC s).2 r4 Pd w) (hp : ∀ d W W', Pd d W → w.heap.size < W.heap.size → Kp (fun k => k = w.heap.size ∨ k = w.heap.size + 1) W W' → Pd d W')
    (hc : ∀ d W, Below w.heap.size w W → Pd d W → Calls Tryz.prog 10 #[docV d] W fun e w' => e = .returned (.int .i64 c) ∧ Below W.heap.size W w') :
    Calls Tryz.prog 11 #[.string s] w (DecPost (decE r4 c) Pd w) := by
  obtain ⟨z1, z2, z3⟩ := rC_size s
  have hA : rNum (s, 0) 1 = rA s := rfl
  have hB : rNum (rA s).2 2 = rB s := rfl
  have hC : rEight (rB s).2 = rC s := rfl
  have hH : dHead s = { dz with kind := (rA s).1, ver := (rB s).1, exp := (rC s).1 } := rfl
  have HF := Lib.hid hf
  have HT := Lib.hid ht
  have HP := Lib.hid hp
  have HCk := Lib.hid hc
  unfold FormC formF at HF
  unfold docV at HCk
  clear hf ht hp hc
  generalize rA s = A at *
  generalize rB s = B at *
  generalize rC s = C at *
  generalize dHead s = d0 at *
  have HA := Lib.hid hA
  have HB := Lib.hid hB
  have HC := Lib.hid hC
  have HH := Lib.hid hH
  clear hA hB hC hH
  unfold DecPost
  generalize hE : decE r4 c = E
  have HE := Lib.hid hE
  clear hE
  obtain ⟨w1, hw1⟩ : ∃ w1, w1 = w.alloc (.cells (docC dz) 30) := ⟨_, rfl⟩
  have ho1 : DocAt w1 w.heap.size dz := by rw [hw1]; exact blk_new _ _
  have hb1 : Below w.heap.size w w1 := by rw [hw1]; exact (Below.refl _ w).alloc (Nat.le_refl _) _
  have hz1 : w1.heap.size = w.heap.size + 1 := by rw [hw1, size_alloc]
  simp only [docC, dz, sz] at hw1
  go_enter Tryz.func11, Tryz.ntmps11
  go_wp2_with fail
  rw [← hw1]
  clear hw1
  refine (read_any s w1).mono ?_
  rintro e w2 ⟨rfl, hw2⟩
  have ho2 : DocAt w2 w.heap.size dz := by rw [hw2]; exact blk_alloc ho1 _
  have hr2 : Rdr 136 w2 w1.heap.size (s, 0) := by rw [hw2]; exact rdr_new _ w1 s
  have hb2 : Below w.heap.size w w2 := by rw [hw2]; exact hb1.alloc hb1.size _
  have hz2 : w2.heap.size = w.heap.size + 2 := by rw [hw2, size_alloc, hz1]
  clear hw2 ho1 hb1
  rw [hz1] at hr2 ⊢
  have HO2 := Lib.hid ho2
  have HR2 := Lib.hid hr2
  have HB2 := Lib.hid hb2
  clear ho2 hr2 hb2
  go_wp2_with fail
  have h3 := r1_any (w.heap.size + 1) (s, 0) w2 (by show s.size ≤ _; omega) HR2.out
  rw [HA.out] at h3
  refine h3.mono ?_
  rintro e w3 ⟨rfl, k3⟩
  have ho3 : DocAt w3 w.heap.size dz := blk_kp HO2.out k3.2 (by omega)
  have hb3 : Below w.heap.size w w3 := HB2.out.trans (k3.2.toBelow HB2.out.size (fun i hi => by omega))
  have hz3 : w.heap.size + 2 ≤ w3.heap.size := by have := k3.2.size; omega
  obtain ⟨w4, hw4⟩ : ∃ w4, w4 = w3.alloc (.cells (docC dz) 30) := ⟨_, rfl⟩
  have hd4 : DocAt (w3.alloc (.cells (docC dz) 30)) w3.heap.size dz := blk_new _ _
  have H4 : DcB w w4 (w.heap.size + 1) w3.heap.size A.2 dz := by
    rw [hw4]
    exact ⟨blk_alloc ho3 _, blk_alloc k3.1 _, hd4, hb3.alloc hb3.size _, by omega, by omega⟩
  have H5 := H4.set (doc_setRow H4.doc (d1K A.1))
  have HD4 := Lib.hid hd4
  have HW5 := Lib.hid H5
  simp only [docC, dz, sz] at hw4
  clear h3 k3 ho3 hb3 hd4 H4 H5 HO2 HR2 HB2 HA
  go_wp2_with (first | refine wpList_docst rfl _ _ rfl w3.heap.size dz (d1K A.1) rfl rfl HD4.out ?_ | fail)
  rw [← hw4]
  clear hw4 HD4
  generalize w4.setRow w3.heap.size (docC (d1K A.1)) = w5 at HW5 ⊢
  generalize w3.heap.size = db at HW5 ⊢
  have h6 := r2_any (w.heap.size + 1) A.2 w5 (by omega) HW5.out.rd
  rw [HB.out] at h6
  refine h6.mono ?_
  rintro e w6 ⟨rfl, k6⟩
  have H6 := HW5.out.read k6
  have c1 := cell_of_blk H6.doc 1 (v := .int .i64 0) rfl
  have f1 := free_of_blk H6.doc 1
  have HW7 := Lib.hid (H6.ver B.1)
  clear h6 k6 H6 HW5 HB
  go_wp2_with fail
  clear c1 f1
  generalize w6.setCell ⟨db, 1, none⟩ (.int .i64 B.1) = w7 at HW7 ⊢
  have h8 := r8_any (w.heap.size + 1) B.2 w7 (by omega) HW7.out.rd
  rw [HC.out] at h8
  refine h8.mono ?_
  rintro e w8 ⟨rfl, k8⟩
  have H8 := HW7.out.read k8
  have c2 := cell_of_blk H8.doc 2 (v := .int .i64 0) rfl
  have f2 := free_of_blk H8.doc 2
  have HW9 := Lib.hid (H8.exp C.1)
  have c0 : (w8.setCell ⟨db, 2, none⟩ (.int .i64 C.1)).cell? ⟨db, 0, none⟩ = some (.int .i64 A.1) := cell_of_blk HW9.out.doc 0 (v := .int .i64 A.1) rfl
  clear h8 k8 H8 HW7 HC
  go_wp2_with fail
  clear c2 f2 c0
  generalize w8.setCell ⟨db, 2, none⟩ (.int .i64 C.1) = w9 at HW9 ⊢
  refine (HF.out w9).mono ?_
  rintro e w10 ⟨rfl, hb10⟩
  have H10 := HW9.out.later hb10
  have H10' : DcB w w10 (w.heap.size + 1) db C.2 d0 := by rw [HH.out]; exact H10
  obtain ⟨w11, hw11⟩ : ∃ w11, w11 = w10.alloc (.cells #[.func (.func fg) #[] #[], .func (.func fl) #[] #[], .func (.func ft) #[] #[], .func (.func fz) #[] #[]] 82) := ⟨_, rfl⟩
  have HW11 : Hid (DcB w w11 (w.heap.size + 1) db C.2 d0) := Lib.hid (by rw [hw11]; exact H10'.later ((Below.refl _ w10).alloc (Nat.le_refl _) _))
  have f1' : (w10.alloc (.cells #[.func (.func fg) #[] #[], .func (.func fl) #[] #[], .func (.func ft) #[] #[], .func (.func fz) #[] #[]] 82)).cell? ⟨w10.heap.size, 2, none⟩ = some (.func (.func ft) #[] #[]) := cell_of_blk (blk_new w10 _) 2 (v := .func (.func ft) #[] #[]) rfl
  obtain ⟨n0, f0⟩ := form_new w10 0 (by decide)
  obtain ⟨n1, f1⟩ := form_new w10 1 (by decide)
  obtain ⟨n2, f2⟩ := form_new w10 2 (by decide)
  obtain ⟨n3, f3⟩ := form_new w10 3 (by decide)
  clear hb10 H10 H10' HW9 HF HH
  go_wp2_with fail
  rw [← hw11]
  clear hw11 n0 n1 n2 n3 f0 f1 f2 f3 f1'
  refine (HT.out w11 db (w.heap.size + 1) HW11.out.below HW11.out.doc HW11.out.rd HW11.out.hr HW11.out.hd).mono ?_
  rintro e w12 ⟨rfl, d', hpd, hdd, hrr, hkk⟩
  have HW12 := Lib.hid (HW11.out.take hdd hrr hkk)
  have HP12 := Lib.hid hpd
  clear hpd hdd hrr hkk HW11 HT
  go_wp2_with fail
  refine (rend_any (w.heap.size + 1) r4 w12 (by omega) HW12.out.rd).mono ?_
  rintro e w13 ⟨rfl, k13⟩
  have hsz : w.heap.size < w12.heap.size := by have := (Array.getElem?_eq_some_iff.1 HW12.out.out).1; exact this
  have HP13 := Lib.hid (HP.out d' w12 w13 HP12.out hsz (k13.2.mono (fun i hi => .inr hi)))
  have HW13 := Lib.hid (HW12.out.read k13)
  clear k13 HP12 HW12 hsz
  have hEE := HE.out
  unfold decE at hEE
  generalize rEnd r4 = r5 at hEE HW13 ⊢
  by_cases h0 : r5.2 = 0
  case neg =>
    have b1 : (r5.2 == 0) = false := beq_eq_false_iff_ne.2 h0
    have b2 : (r5.2 != 0) = true := by rw [bne, b1]; rfl
    obtain rfl : E = 3 := by rw [← hEE, if_pos (.inl h0)]
    have HD := Lib.hid (doc_setRow HW13.out.out dz)
    clear h0 hEE HE
    go_wp2_with (first | refine wpList_docst rfl _ _ rfl w.heap.size dz dz rfl rfl HW13.out.out ?_ | fail)
    refine doc_ret _ _ w.heap.size dz 3 HD.out.1 rfl rfl rfl rfl ?_
    exact ⟨dz, rfl, rfl, HW13.out.below.trans (HD.out.2.toBelow HW13.out.below.size (fun i hi => by omega))⟩
  case pos =>
    have b1 : (r5.2 == 0) = true := beq_iff_eq.2 h0
    have b2 : (r5.2 != 0) = false := by rw [bne, b1]; rfl
    have HCC := Lib.hid (HCk.out d' w13 HW13.out.below HP13.out)
    clear HCk HE
    go_wp2_with (first | refine wpList_docg rfl _ rfl db d' rfl HW13.out.doc ?_ | fail)
    refine HCC.out.mono ?_
    rintro e w14 ⟨rfl, hb14⟩
    have HW14 := Lib.hid (HW13.out.later hb14)
    have hsz : w.heap.size < w13.heap.size := by have := (Array.getElem?_eq_some_iff.1 HW13.out.out).1; exact this
    have HP14 := Lib.hid (HP.out d' w13 w14 HP13.out hsz (Kp.of_below hb14))
    have hsz2 : w.heap.size < w14.heap.size := Nat.lt_of_lt_of_le hsz hb14.size
    clear hb14 HP13 HW13 HCC hsz
    by_cases hc0 : c = 0
    case neg =>
      have b3 : (c == 0) = false := beq_eq_false_iff_ne.2 hc0
      have b4 : (c != 0) = true := by rw [bne, b3]; rfl
      obtain rfl : E = 3 := by rw [← hEE, if_pos (.inr hc0)]
      have HD := Lib.hid (doc_setRow HW14.out.out dz)
      clear h0 hEE hc0
      go_wp2_with (first | refine wpList_docst rfl _ _ rfl w.heap.size dz dz rfl rfl HW14.out.out ?_ | fail)
      refine doc_ret _ _ w.heap.size dz 3 HD.out.1 rfl rfl rfl rfl ?_
      exact ⟨dz, rfl, rfl, HW14.out.below.trans (HD.out.2.toBelow HW14.out.below.size (fun i hi => by omega))⟩
    case pos =>
      have b3 : (c == 0) = true := beq_iff_eq.2 hc0
      have b4 : (c != 0) = false := by rw [bne, b3]; rfl
      obtain rfl : E = 0 := by rw [← hEE, if_neg (by rintro (h | h); exact h h0; exact h hc0)]
      have HD := Lib.hid (doc_setRow HW14.out.out d')
      have HPZ := Lib.hid (HP.out d' w14 _ HP14.out hsz2 (HD.out.2.mono (fun i hi => .inl hi)))
      clear h0 hEE hc0
      go_wp2_with (first | refine wpList_doc rfl _ rfl db d' rfl HW14.out.doc ?_ | refine wpList_docst rfl _ _ rfl w.heap.size dz d' rfl rfl HW14.out.out ?_ | fail)
      refine doc_ret _ _ w.heap.size d' 0 HD.out.1 rfl rfl rfl rfl ?_
      exact ⟨d', rfl, HPZ.out, HW14.out.below.trans (HD.out.2.toBelow HW14.out.below.size (fun i hi => by omega))⟩

/-! ### a timestamp's document -/
def ts1 (r : RS) : Int × RS := rNum r 2
def ts2 (r : RS) : ByteArray × RS := rRaw (ts1 r).2 32
theorem enter_tg : Ent 104 := fun args w => by kernel_rfl
theorem enter_tl : Ent 105 := fun args w => by kernel_rfl
theorem enter_tt : Ent 106 := fun args w => by kernel_rfl
theorem enter_tz : Ent 107 := fun args w => by kernel_rfl
set_option maxRecDepth 100000 in
set_option maxHeartbeats 1000000 in
theorem taketst_any (d0 : DV) (r3 : RS) (w : World) (hs : r3.1.size ≤ 1000000000) : TakeC 106 d0 r3 (ts2 r3).2 (fun d _ => d = { d0 with of := (ts1 r3).1, hash := (ts2 r3).1 }) w := by
  intro W db rb hB hd hr h1 h2
  have hz : (ts1 r3).2.1.size ≤ r3.1.size := (rRaw_size r3 2).2
  have e1 : rNum r3 2 = ts1 r3 := rfl
  have e2 : rRaw (ts1 r3).2 32 = ts2 r3 := rfl
  have HC := r2_any rb r3 W (by omega) hr
  rw [e1] at HC
  generalize ts2 r3 = B at *
  generalize ts1 r3 = A at *
  have HC1 := Lib.hid HC
  have HD := Lib.hid hd
  have HE := Lib.hid e2
  clear HC hB hd hr e1 e2
  go_enter Tryz.func106, Tryz.ntmps106
  go_wp2_with fail
  refine HC1.out.mono ?_
  rintro e w1 ⟨rfl, k1⟩
  have HC2 := rhash_any rb A.2 w1 (by omega) k1.1
  rw [HE.out] at HC2
  have HK1 := Lib.hid k1
  have HC3 := Lib.hid HC2
  clear k1 HC2 HC1
  go_wp2_with fail
  refine HC3.out.mono ?_
  rintro e w2 ⟨rfl, k2⟩
  have hne : ¬ db = rb := by omega
  have hd2 : DocAt w2 db d0 := blk_kp (blk_kp HD.out HK1.out.2 hne) k2.2 hne
  have c19 := cell_of_blk hd2 19 (v := .int .i64 d0.of) rfl
  have c20 := cell_of_blk hd2 20 (v := .string d0.hash) rfl
  have f19 := free_of_blk hd2 19
  have f20 := free_of_blk hd2 20
  have hs2 : DocAt ((w2.setCell ⟨db, 19, none⟩ (.int .i64 A.1)).setCell ⟨db, 20, none⟩ (.string B.1)) db { d0 with of := A.1, hash := B.1 } := blk_set (blk_set hd2 _) _
  have hk2 : Kp (fun k => k = db) w2 ((w2.setCell ⟨db, 19, none⟩ (.int .i64 A.1)).setCell ⟨db, 20, none⟩ (.string B.1)) := ((Kp.refl (fun k => k = db) w2).setCell (p := ⟨db, 19, none⟩) (.inl rfl) _).setCell (p := ⟨db, 20, none⟩) (.inl rfl) _
  have hr2 := blk_kp k2.1 hk2 (Ne.symm hne)
  have HS := Lib.hid hs2
  have HR := Lib.hid hr2
  have HK : Hid (Kp (fun k => k = db ∨ k = rb) W ((w2.setCell ⟨db, 19, none⟩ (.int .i64 A.1)).setCell ⟨db, 20, none⟩ (.string B.1))) := Lib.hid (((HK1.out.2.trans k2.2).mono (fun i hi => .inr hi)).trans (hk2.mono (fun i hi => .inl hi)))
  clear hd2 hs2 hk2 hr2 k2 HK1 HC3 HD
  go_wp2_with fail
  go_end0
  exact ⟨rfl, _, rfl, HS.out, HR.out, HK.out⟩
def chk4 (d : DV) : Int := chkE (chkB d { d with of := 0, hash := ⟨#[]⟩ } (tsGood d.of d.hash))
theorem check4 (d : DV) (w : World) (hk : d.kind = 4) : Calls Tryz.prog 10 #[docV d] w fun e w' => e = .returned (.int .i64 (chk4 d)) ∧ Below w.heap.size w w' :=
  check_form 104 105 106 107 d _ _ w enter_tg enter_tz (by rw [hk]; exact forms4)
    (fun W b _ h => (goodts_any b d W h).mono fun e w' ⟨h1, h2⟩ => ⟨h1, h2 ▸ Below.refl _ _⟩) (fun W b _ h => zero4_any b d W h)
def lay4 (d : DV) (q : WS) : WS := pHash (wNum q d.of 2) d.hash
theorem encode4 (d : DV) (w : World) (hk : d.kind = 4) (hv : I64 d.ver) (hx : I64 d.exp) (ho : I64 d.of) (hh : d.hash.size ≤ 1000000000) :
    Calls Tryz.prog 9 #[docV d] w fun e w' => e = .returned (.tuple #[.string (encP d (chk4 d) (lay4 d)).1, .int .i64 (encP d (chk4 d) (lay4 d)).2]) ∧ Below w.heap.size w w' :=
  encode_form 104 105 106 107 d (chk4 d) (lay4 d) w enter_tl (by rw [hk]; exact forms4) (fun W _ => check4 d W hk) (layts_any d w ho hh) (by rw [hk]; exact ⟨by decide, by decide⟩) hv hx
def dts (s : ByteArray) : DV := { dHead s with of := (ts1 (rC s).2).1, hash := (ts2 (rC s).2).1 }
theorem decode4 (s : ByteArray) (w : World) (hs : s.size ≤ 1000000000) (hk : (rA s).1 = 4) :
    Calls Tryz.prog 11 #[.string s] w (DecPost (decE (ts2 (rC s).2).2 (chk4 (dts s))) (fun d _ => d = dts s) w) :=
  decode_form 104 105 106 107 s (ts2 (rC s).2).2 (chk4 (dts s)) _ w hs
    (by have h1 := rC_size s; have h2 : (ts1 (rC s).2).2.1.size ≤ (rC s).2.1.size := (rRaw_size _ 2).2; have h3 : (ts2 (rC s).2).2.1.size ≤ (ts1 (rC s).2).2.1.size := (rRaw_size _ 32).2; omega)
    enter_tt (by rw [hk]; exact forms4) (taketst_any (dHead s) (rC s).2 w (by have h1 := rC_size s; omega)) (fun d W W' h _ _ => h)
    (fun d W _ h => by rw [h]; exact check4 (dts s) W hk)
end Go.Proofs.YtmejjphliaiamaaGreatDoor
