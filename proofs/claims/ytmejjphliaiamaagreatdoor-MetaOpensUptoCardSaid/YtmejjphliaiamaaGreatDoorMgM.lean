import Derived.Test.YtmejjphliaiamaaGreatDoorMgJ
import Derived.Test.YtmejjphliaiamaaGreatDoorMgI
import Derived.Test.YtmejjphliaiamaaGreatDoorMeS
import Derived.Test.YtmejjphliaiamaaGreatDoorShaS
set_option linter.unusedVariables false
set_option linter.unusedSimpArgs false
namespace Go.Proofs.YtmejjphliaiamaaGreatDoor
open Go Go.RowKit Go.Lib Go.Sort

/-! ### MetaDocs: what the law needs -/
theorem txZ_32 : ∀ L : List ByteArray, (∀ t ∈ L, t.size = 32) → txZ L = 32 * L.length
  | [], _ => rfl
  | x :: r, h => by
    have h1 := txZ_32 r (fun t ht => h t (List.mem_cons_of_mem _ ht))
    have h2 := h x List.mem_cons_self
    rw [txZ, List.length_cons]
    omega
theorem tgZ_35 : ∀ L : List TgtT, (∀ t ∈ L, TgFit t) → tgZ L = 35 * L.length
  | [], _ => rfl
  | x :: r, h => by
    have h1 := tgZ_35 r (fun t ht => h t (List.mem_cons_of_mem _ ht))
    obtain ⟨-, -, -, -, h2⟩ := h x List.mem_cons_self
    rw [tgZ, List.length_cons]
    omega
theorem i64_of {x : Int} (h1 : 0 ≤ x) (h2 : x ≤ 1099511627776) : I64 x := ⟨by omega, by omega⟩
theorem efit_of_chk {p : PD} (h : chkP p = 0) : EFit p := by
  obtain ⟨hk, hv, hx, hg, -⟩ := chkP0 h
  have hf := chk_form h
  have hc := fit_of_chk h
  unfold goodP at hg
  have ik : I64 p.kind := i64_of (by omega) (by omega)
  have iv : I64 p.ver := i64_of (by omega) (by omega)
  have ix : I64 p.exp := i64_of hx.1 hx.2
  have z0 : I64 0 := i64_of (by decide) (by decide)
  rcases hf with ⟨k1, e1, e2, e3, e4, e5, e6⟩ | ⟨hk1, e0, e1, e2, e3, e4, e5, e6, hf⟩
  · rw [if_pos k1] at hg
    unfold rootGood at hg
    rw [Bool.and_eq_true] at hg
    have hS : ∀ S ∈ p.S, setGood S = true := List.all_eq_true.1 hg.2
    refine ⟨hc, by rw [e3]; exact Nat.zero_le _, iv, ix, ik, by rw [e2]; exact z0, by rw [e5]; exact z0, fun S hm => ?_, by rw [e1]; exact Nat.zero_le _, by rw [e1]; exact Nat.zero_le _, fun t ht => by rw [e1] at ht; exact (List.not_mem_nil ht).elim⟩
    obtain ⟨⟨g1, g2, g3, g4⟩, g5⟩ := setGood_ids (hS S hm)
    have := txZ_32 S.1 g5
    exact ⟨by omega, by omega, i64_of (by omega) (by omega)⟩
  · have zs : ∀ S ∈ p.S, S.1.length ≤ 100000000 ∧ txZ S.1 ≤ 100000000 ∧ I64 S.2 := by
      intro S hS
      unfold PD.S at hS
      rw [e0, e1, e2, e3, e4] at hS
      have : S = ([], 0) := by simpa using hS
      rw [this]
      exact ⟨Nat.zero_le _, Nat.zero_le _, z0⟩
    rw [if_neg hk1] at hg
    rcases hf with ⟨k2, g2, g3, g4, g5, g6⟩ | ⟨k3, g2⟩ | ⟨k4, g2, g3, g4, g5⟩
    · rw [if_pos k2] at hg
      unfold goodTg at hg
      rw [Bool.and_eq_true] at hg
      have hl : p.T.length ≤ 64 := of_decide_eq_true hg.2
      have hfit := tgsB_fit p.T 0 (by omega) hg.1
      have hz := tgZ_35 p.T hfit
      exact ⟨hc, by rw [g3]; exact Nat.zero_le _, iv, ix, ik, by rw [g2]; exact z0, by rw [g5]; exact z0, zs, by omega, by omega, fun t ht => by obtain ⟨a, b, c, d, -⟩ := hfit t ht; exact ⟨i64_of a (by omega), i64_of c (by omega)⟩⟩
    · rw [if_neg (by omega), if_pos k3] at hg
      unfold snGood tsGood at hg
      simp only [Bool.and_eq_true, decide_eq_true_eq] at hg
      obtain ⟨c1, c2, c3, c4, c5⟩ := cpV_ok hg.1
      obtain ⟨-, o1, o3⟩ := hg
      have o1 : 1 ≤ p.of ∧ p.of ≤ 65535 := o1
      have o3 : p.hash.size = 32 := o3
      have c3 : 0 ≤ p.pS := c3
      have c4 : p.pS ≤ 1024 := c4
      exact ⟨hc, by omega, iv, ix, ik, i64_of (by omega) (by omega), i64_of c3 (by omega), zs, by rw [g2]; exact Nat.zero_le _, by rw [g2]; exact Nat.zero_le _, fun t ht => by rw [g2] at ht; exact (List.not_mem_nil ht).elim⟩
    · rw [if_neg (by omega), if_neg (by omega)] at hg
      unfold tsGood at hg
      simp only [Bool.and_eq_true, decide_eq_true_eq] at hg
      exact ⟨hc, by omega, iv, ix, ik, i64_of (by omega) (by omega), by rw [g4]; exact z0, zs, by rw [g2]; exact Nat.zero_le _, by rw [g2]; exact Nat.zero_le _, fun t ht => by rw [g2] at ht; exact (List.not_mem_nil ht).elim⟩
/-- a whole document, loaded in a quiet region. -/
theorem quiet_docld {C : World → Prop} {o : Oper} {a : Act} {K : Act → Prop} (x : Operand) (ho : o.op = .load 30 x) (b : Nat) (d : DV) (hx : a.eval x = .pointer (some ⟨b, 0, none⟩)) (h : ∀ W, C W → DocAt W b d) (k : K (a.put o.dst (.agg (docC d)))) : o.quiet Tryz.prog a C K := by
  refine ⟨.agg (docC d), fun W hW => ?_, k⟩
  have hl : (loadVar 30 ⟨b, 0, none⟩).run Tryz.prog W = .ok (.agg (docC d)) W := run_loadVar_row W _ _ _ (docC d) (0, 0) _ (h W hW) docU rfl (docI d)
  have hl2 : (Instr.loadAt 30 (.pointer (some ⟨b, 0, none⟩))).run Tryz.prog W = .ok (.agg (docC d)) W := by
    simp only [Instr.loadAt, Instr.sureAddr, Sem.run_bind, Sem.run_pure, Result.andThen_ok, hl]
  unfold Oper.quietAt execOp
  rw [ho]
  show Oper.quietUpon Tryz.prog C W _ (Sem.run Tryz.prog (do let v ← Instr.loadAt 30 (a.eval x); pure (Next.value v)) W)
  rw [hx]
  simp only [Sem.run_bind, hl2, Result.andThen_ok, Sem.run_pure]
  exact ⟨rfl, rfl⟩

/-! ### MetaDocs -/
/-- the two hashes, told by the same function. -/
def HashM (hs : ByteArray → ByteArray) : Prop := ∀ (b : ByteArray) (W : World), b.size ≤ 100000000 → Calls Tryz.prog 27 #[.string b] W fun e w' => e = .returned (.string (hs b)) ∧ Below W.heap.size W w'
def HashR (hs : ByteArray → ByteArray) : Prop := ∀ (b : ByteArray) (W : World) (g : Nat), b.size ≤ 100000000 → W.cell? ⟨g, 0, none⟩ = some (.string b) → Calls Tryz.prog 28 #[.slice (some ⟨g, 0, none⟩) 1 1] W fun e w' => e = .returned (.string (hs b)) ∧ Below W.heap.size W w'

/-- a row whose elements are written over. -/
structure Sp (T : TypeId) (sz : Nat) (w0 : World) (ad : Option Addr) (n : Nat) (w : World) : Prop where
  kp : Kp (fun b => 0 < n ∧ ad = some ⟨b, 0, none⟩) w0 w
  row : 0 < n → ∃ g cur, ad = some ⟨g, 0, none⟩ ∧ w.heap[g]? = some (.cells cur T (0, 0)) ∧ n * sz ≤ cur.size
theorem sp_of {α : Type} {T : TypeId} {sz : Nat} {mk : α → List Value} {w : World} {base : Nat} {ad : Option Addr} {c : Nat} {L : List α} (h : OwnL T sz mk w base (.slice ad L.length c) L) : Sp T sz w ad L.length w := by
  refine ⟨Kp.refl _ _, fun h0 => ?_⟩
  rcases h.2 with ⟨h2, h3⟩ | ⟨g, cap, cur, hv, -, hh, hc, -, hz, -⟩
  · omega
  · cases hv
    exact ⟨g, cur, rfl, hh, by rw [hz]; exact Nat.mul_le_mul_right _ hc⟩
theorem Sp.cell {T : TypeId} {sz n k j : Nat} {w0 w : World} {ad : Option Addr} (H : Sp T sz w0 ad n w) (hk : k < n) (hj : j < sz) : ∃ g v, ad = some ⟨g, 0, none⟩ ∧ w.cell? ⟨g, k * sz + j, none⟩ = some v ∧ w.frozen? ⟨g, k * sz + j, none⟩ = false ∧ g < w.heap.size ∧ ∀ u, Sp T sz w0 ad n (w.setCell ⟨g, k * sz + j, none⟩ u) := by
  obtain ⟨g, cur, ha, hh, hz⟩ := H.row (by omega)
  have hlt : k * sz + j < cur.size := by
    have : (k + 1) * sz ≤ n * sz := Nat.mul_le_mul_right _ hk
    rw [Nat.succ_mul] at this
    omega
  refine ⟨g, cur[k * sz + j], ha, cell_of_blk hh _ (Array.getElem?_eq_getElem hlt), free_of_blk hh _, (Array.getElem?_eq_some_iff.1 hh).1, fun u => ⟨H.kp.setCell (p := ⟨g, k * sz + j, none⟩) (.inl ⟨by omega, ha⟩) _, fun _ => ⟨g, _, ha, blk_set hh u, by simpa using hz⟩⟩⟩
def SpRel (T : TypeId) (sz : Nat) (w0 : World) (ad : Option Addr) (n : Nat) (i : Value) (wr : World) : Prop := ∃ k : Nat, k ≤ n ∧ i = .int .i64 k ∧ Sp T sz w0 ad n wr
theorem decD_or (x : ByteArray) : decD x = (pz, 3) ∨ (decD x).2 = 0 := by
  unfold decD
  split
  · exact .inl rfl
  · exact .inr rfl
theorem fit_pz : CFit pz := by
  refine ⟨Nat.zero_le _, Nat.zero_le _, Nat.zero_le _, Nat.zero_le _, fun S hS => ?_, Nat.zero_le _⟩
  have : S = (([], 0) : SetT) := by simpa [PD.S, pz] using hS
  rw [this]
  exact Nat.zero_le _
theorem fit_decD (x : ByteArray) : CFit (decD x).1 := by
  rcases decD_or x with h | h
  · rw [h]; exact fit_pz
  · exact fit_of_chk (dec_again (p := (decD x).1) (Prod.ext rfl h)).1
set_option maxRecDepth 100000 in
set_option maxHeartbeats 4000000 in
theorem metadocs_any (hs : ByteArray → ByteArray) (hM : HashM hs) (hR : HashR hs) (p : PD) (d : DV) (body : ByteArray) (w : World) (h : DocM w d p) (hf : EFit p) (hb : body.size ≤ 10000000) (hBz : (encD p).1.size ≤ 10000000) (hV : VarsP w) :
    Calls Tryz.prog 6 #[docV d, .string body] w fun e w' => e = .returned (.bool true) ∧ Below w.heap.size w w' := by
  have HSl := Lib.hid seals_any
  have HEn := Lib.hid (fun W (hb : Below w.heap.size w W) => encode_all p d W (h.below hb) hf (hV.below hb))
  have HRe := Lib.hid (fun W (hb : Below w.heap.size w W) => rencode_all p d W (h.below hb) hf (hV.below hb))
  have HCk := Lib.hid (fun W (hb : Below w.heap.size w W) => check_all p d W (h.below hb) hf.c (hV.below hb))
  have HRc := Lib.hid (fun W (hb : Below w.heap.size w W) => rcheck_all p d W (h.below hb) hf.c (hV.below hb))
  have HM := Lib.hid hM
  have HR := Lib.hid hR
  have HVw := Lib.hid hV
  have hd : DocAt (w.alloc (.cells (docC d) 30)) w.heap.size d := blk_new _ _
  have hB : Below w.heap.size w (w.alloc (.cells (docC d) 30)) := (Below.refl _ w).alloc (Nat.le_refl _) _
  obtain ⟨w1, hw1⟩ : ∃ w1, w1 = w.alloc (.cells (docC d) 30) := ⟨_, rfl⟩
  rw [← hw1] at hd hB
  have HD1 := Lib.hid hd
  have HB1 := Lib.hid hB
  have hE : (encD p).2 = 0 ∧ chkP p = 0 ∨ (encD p).2 = 1 ∧ chkP p ≠ 0 := by
    by_cases hc : chkP p = 0
    · exact .inl ⟨by rw [enc_ok hc], hc⟩
    · exact .inr ⟨by rw [(enc_bad hc).1], hc⟩
  have HEE := Lib.hid hE
  unfold docV at HEn HRe HCk HRc ⊢
  clear h hf hV hd hB hM hR hE
  generalize encD p = Q at *
  obtain ⟨S, E⟩ := Q
  dsimp only at *
  have hSS : (S.toList == S.toList) = true := beq_self_eq_true _
  have hSS2 : (S.toList != S.toList) = false := by rw [bne, hSS]; rfl
  have hE1 : (E == E) = true := beq_self_eq_true _
  have hE2 : (E != E) = false := by rw [bne, hE1]; rfl
  go_enter Tryz.func6, Tryz.ntmps6
  go_wp2_with fail
  rw [← hw1]
  clear hw1
  refine (HSl.out w1).mono ?_
  rintro e w2 ⟨rfl, hb2⟩
  have HD2 : Hid (DocAt w2 w.heap.size d) := Lib.hid (HD1.out.later hb2)
  have HB2 := Lib.hid (HB1.out.trans (hb2.mono HB1.out.size))
  clear hb2 HD1 HB1 HSl
  go_wp2_with (first | refine wpList_doc rfl _ rfl w.heap.size d rfl HD2.out ?_ | fail)
  refine (HEn.out w2 HB2.out).mono ?_
  rintro e w3 ⟨rfl, hb3⟩
  have HD3 : Hid (DocAt w3 w.heap.size d) := Lib.hid (HD2.out.later hb3)
  have HB3 := Lib.hid (HB2.out.trans (hb3.mono HB2.out.size))
  clear hb3 HD2 HB2 HEn
  go_wp2_with (first | refine wpList_doc rfl _ rfl w.heap.size d rfl HD3.out ?_ | fail)
  refine (HRe.out w3 HB3.out).mono ?_
  rintro e w4 ⟨rfl, hb4⟩
  have HD4 : Hid (DocAt w4 w.heap.size d) := Lib.hid (HD3.out.later hb4)
  have HB4 := Lib.hid (HB3.out.trans (hb4.mono HB3.out.size))
  clear hb4 HD3 HB3 HRe
  generalize hck : chkP p = ck at HCk HRc HEE
  have hcc : (ck == ck) = true := beq_self_eq_true _
  have hcc2 : (ck != ck) = false := by rw [bne, hcc]; rfl
  go_upto_region 5 with fail
  have cP : ∀ dd os, Calls Tryz.prog 10 #[.agg (docC d)] (grow (redrawn w4 dd) os) fun e w'' => e = .returned (.int .i64 ck) ∧ ∃ p : Regrown, w'' = grow (redrawn w4 p.d) p.os :=
    fun dd os => Calls.regrown_of (HCk.out _ (HB4.out.trans ((below_regrown w4 dd os).mono HB4.out.size)))
  have cR : ∀ dd os, Calls Tryz.prog 25 #[.agg (docC d)] (grow (redrawn w4 dd) os) fun e w'' => e = .returned (.int .i64 ck) ∧ ∃ p : Regrown, w'' = grow (redrawn w4 p.d) p.os :=
    fun dd os => Calls.regrown_of (HRc.out _ (HB4.out.trans ((below_regrown w4 dd os).mono HB4.out.size)))
  have hdoc : ∀ W, (∃ p : Regrown, W = grow (redrawn w4 p.d) p.os) → DocAt W w.heap.size d := by
    rintro W ⟨⟨dd, os⟩, rfl⟩
    exact HD4.out.later (below_regrown w4 dd os)
  refine wp_region_quiet_below (by kernel_rfl) (by kernel_rfl) ?_
  repeat go_big_quiet_step (fail)
  (refine wpQuiet_step (fun K hK => ?_); rw [if_pos (by rfl)]; refine quiet_docld _ (by rfl) w.heap.size d (by rfl) hdoc (hK _ ?_); clear hK K; simp only [Act.put, List.setIfInBounds_toArray, List.set_cons_zero, List.set_cons_succ])
  go_big_quiet_step (with_reducible exact cP _ _)
  (refine wpQuiet_step (fun K hK => ?_); rw [if_pos (by rfl)]; refine quiet_docld _ (by rfl) w.heap.size d (by rfl) hdoc (hK _ ?_); clear hK K; simp only [Act.put, List.setIfInBounds_toArray, List.set_cons_zero, List.set_cons_succ])
  repeat go_big_quiet_step (with_reducible exact cR _ _)
  refine wpQuiet_nil ?_
  intro w5 hw5
  obtain ⟨⟨dq, osq⟩, hw''⟩ := hw5
  have hb5 : Below w4.heap.size w4 w5 := by rw [hw'']; exact below_regrown w4 dq osq
  have HD5 : Hid (DocAt w5 w.heap.size d) := Lib.hid (HD4.out.later hb5)
  have HB5 := Lib.hid (HB4.out.trans (hb5.mono HB4.out.size))
  clear hw'' hb5 cP cR hdoc HD4 HB4
  have hcat : ¬ 9223372036854775807 < S.size + body.size := by omega
  have h6 := HB5.out.alloc HB5.out.size (.cells #[.string body, .string S, .string (S ++ body)] 9)
  have hq6 := blk_new w5 (.cells #[.string body, .string S, .string (S ++ body)] 9)
  have hd6 : DocAt (w5.alloc (.cells #[.string body, .string S, .string (S ++ body)] 9)) w.heap.size d := blk_alloc HD5.out _
  go_wp2_with fail
  generalize w5.alloc (.cells #[.string body, .string S, .string (S ++ body)] 9) = w6 at h6 hq6 hd6 ⊢
  generalize w5.heap.size = qb at hq6 ⊢
  have HB6 := Lib.hid h6
  have HQ6 := Lib.hid hq6
  have HD6 := Lib.hid hd6
  clear h6 hq6 hd6 HB5 HD5 hcat
  go_loopw [55] (fun i wr => SlsRel w6 i wr) (fun i _ => 3 - (intOf i).toNat)
  case atStart => exact ⟨0, Nat.zero_le _, rfl, Below.refl _ _⟩
  case round =>
    obtain ⟨k, hk, rfl, hbr⟩ := hrel
    have HBr := Lib.hid (HB6.out.trans (hbr.mono HB6.out.size))
    have HBs := Lib.hid hbr
    have hqr := blk_later HQ6.out hbr
    have HDr : Hid (DocAt wr w.heap.size d) := Lib.hid (HD6.out.later hbr)
    clear hbr
    by_cases hlt : k < 3
    case neg =>
      obtain rfl : k = 3 := by omega
      clear hqr
      rcases HEE.out with ⟨e0, e1⟩ | ⟨e0, e1⟩
      · have b1 : (E == 0) = true := beq_iff_eq.2 e0
        have b2 : (E != 0) = false := by rw [bne, b1]; rfl
        have b3 : (ck == 0) = true := beq_iff_eq.2 e1
        clear e0 e1
        go_wp2_with (first | refine wpList_docg rfl _ rfl w.heap.size d rfl HDr.out ?_ | fail)
        refine (HRc.out wr HBr.out).mono ?_
        rintro e w7 ⟨rfl, hb7⟩
        have HB7 := Lib.hid (HBr.out.trans (hb7.mono HBr.out.size))
        clear hb7
        go_wp2_with fail
        go_ret
        exact ⟨rfl, HB7.out⟩
      · have b1 : (E == 0) = false := beq_eq_false_iff_ne.2 (by omega)
        have b2 : (E != 0) = true := by rw [bne, b1]; rfl
        clear e0 e1
        go_wp2_with fail
        go_ret
        exact ⟨rfl, HBr.out⟩
    case pos =>
      obtain ⟨x, hx, cx⟩ := three_at hqr k hlt
      have hxs : x.size ≤ 100000000 := by
        rcases hx with rfl | rfl | rfl
        · omega
        · omega
        · rw [ByteArray.size_append]; omega
      have hk0 : (0 : Int) ≤ (k : Int) := Int.natCast_nonneg _
      have hk1 : (k : Int) < 3 := by omega
      have hag : (decD x).2 = 0 → chkP (decD x).1 = 0 ∧ encD (decD x).1 = (x, 0) := fun h => dec_again (Prod.ext rfl h)
      have HFit := Lib.hid (fit_decD x)
      have H1 := Lib.hid (fun W (hV : VarsP W) => decode_all x W (by omega) hV)
      have H2 := Lib.hid (fun W (hV : VarsP W) => rdecode_all x W (by omega) hV)
      unfold DecAll at H1 H2
      generalize decD x = Q at hag HFit H1 H2
      obtain ⟨q, g⟩ := Q
      dsimp only at hag HFit H1 H2
      have HAg := Lib.hid hag
      have hgg : (g == g) = true := beq_self_eq_true _
      have hgg2 : (g != g) = false := by rw [bne, hgg]; rfl
      clear hx hqr hag
      go_wp2_with fail
      refine (H1.out wr (HVw.out.below HBr.out)).mono ?_
      rintro e w7 ⟨d1, rfl, ho1, hb7⟩
      have hB7 := HBs.out.trans (hb7.mono HBs.out.size)
      obtain ⟨a1, cc1, ed1, hs7, ht7⟩ := id ho1
      have hlt5 : ∀ g, (Value.slice (a1 5) q.T.length (cc1 5)).ownBlock = some g → wr.heap.size ≤ g ∧ g < w7.heap.size := fun g hg => OwnL.lt ht7 g hg
      have hlt4 : ∀ g, (Value.slice (a1 4) q.s4.1.length (cc1 4)).ownBlock = some g → wr.heap.size ≤ g ∧ g < w7.heap.size := fun g hg => OwnL.lt (hs7 4 q.s4 rfl) g hg
      have HL5 := Lib.hid hlt5
      have HL4 := Lib.hid hlt4
      have HEd := Lib.hid ed1
      clear hs7 ht7 hlt5 hlt4 ed1
      obtain ⟨hn8, hb8⟩ := doc_new w7 d1
      have hd8 : DocAt (w7.alloc (.cells (docC dz) 30)) w7.heap.size dz := blk_new _ _
      have HZ8 := Lib.hid hd8
      have HN8 := Lib.hid hn8
      have ho8 := ho1.below hb8
      have HO8 := Lib.hid ho8
      have HB8 := Lib.hid (hB7.trans (hb8.mono hB7.size))
      obtain ⟨wa, hwa⟩ : ∃ wa, wa = w7.alloc (.cells (docC dz) 30) := ⟨_, rfl⟩
      rw [← hwa] at HN8 HO8 HB8
      have hwa' := hwa
      simp only [docC, dz, sz] at hwa'
      have hl7 : wr.heap.size ≤ w7.heap.size := hb7.size
      clear ho1 hb7 hB7 hn8 hb8 hd8 cx ho8
      go_wp2_with (first | refine wpList_docst rfl _ _ rfl w7.heap.size dz d1 rfl rfl HZ8.out ?_ | fail)
      rw [← hwa']
      clear hwa' HZ8
      generalize wa.setRow w7.heap.size (docC d1) = w8 at HN8 HO8 HB8 ⊢
      generalize w7.heap.size = db at HN8 hl7 HL5 HL4 ⊢
      clear hwa
      have hBw8 := HB6.out.trans (HB8.out.mono HB6.out.size)
      refine (H2.out w8 (HVw.out.below hBw8)).mono ?_
      rintro e w9 ⟨d2, rfl, ho2, hb9⟩
      have hB9 := HB8.out.trans (hb9.mono HB8.out.size)
      have hN9 : DocAt w9 db d1 := HN8.out.later hb9
      obtain ⟨hn10, hb10⟩ := doc_new w9 d2
      have hd10 : DocAt (w9.alloc (.cells (docC dz) 30)) w9.heap.size dz := blk_new _ _
      have HZ10 := Lib.hid hd10
      have HY10 := Lib.hid hn10
      have HN10 : Hid (DocAt _ db d1) := Lib.hid (hN9.later hb10)
      have HO10 := Lib.hid ((HO8.out.below hb9).below hb10)
      have HP10 := Lib.hid (ho2.below hb10)
      have HB10 := Lib.hid (hB9.trans (hb10.mono hB9.size))
      have hl8 : db < w8.heap.size := (Array.getElem?_eq_some_iff.1 HN8.out).1
      have hl9 : w8.heap.size ≤ w9.heap.size := hb9.size
      have hS := same_all q q d1 d2 _ HO10.out.m HP10.out.m HFit.out HFit.out
      rw [sameP_refl] at hS
      unfold docV at hS
      have HS := Lib.hid hS
      obtain ⟨wa, hwa⟩ : ∃ wa, wa = w9.alloc (.cells (docC dz) 30) := ⟨_, rfl⟩
      have HY10w := Lib.hid HY10.out
      have HN10w := Lib.hid HN10.out
      rw [← hwa] at HY10w HN10w HO10 HP10 HB10 HS
      have hwa' := hwa
      simp only [docC, dz, sz] at hwa'
      clear ho2 hb9 hB9 hN9 hn10 hb10 hd10 HN8 HO8 HB8 hS hBw8
      go_wp2_with (first | refine wpList_docst rfl _ _ rfl w9.heap.size dz d2 rfl rfl HZ10.out ?_ | refine wpList_docg rfl _ rfl db d1 rfl HN10.out ?_ | refine wpList_docg rfl _ rfl w9.heap.size d2 rfl HY10.out ?_ | fail)
      rw [← hwa']
      clear hwa' HZ10 HY10 HN10
      generalize wa.setRow w9.heap.size (docC d2) = w10 at HY10w HN10w HO10 HP10 HB10 HS ⊢
      generalize w9.heap.size = yb at HY10w hl9 ⊢
      clear hwa
      refine HS.out.mono ?_
      rintro e w11 ⟨rfl, hb11⟩
      have HY11 := Lib.hid (DocAt.later HY10w.out hb11)
      have HN11 := Lib.hid (DocAt.later HN10w.out hb11)
      have HO11 := Lib.hid (HO10.out.below hb11)
      have HP11 := Lib.hid (HP10.out.below hb11)
      have HB11 := Lib.hid (HB10.out.trans (hb11.mono HB10.out.size))
      clear hb11 HY10w HN10w HO10 HP10 HB10 HS
      have hh : ((hs x).toList == (hs x).toList) = true := beq_self_eq_true _
      have hh2 : ((hs x).toList != (hs x).toList) = false := by rw [bne, hh]; rfl
      go_wp2_with fail
      refine (HM.out x w11 hxs).mono ?_
      rintro e w12 ⟨rfl, hb12⟩
      have HY12 := Lib.hid (DocAt.later HY11.out hb12)
      have HN12 := Lib.hid (DocAt.later HN11.out hb12)
      have HO12 := Lib.hid (HO11.out.below hb12)
      have HP12 := Lib.hid (HP11.out.below hb12)
      have HB12 := Lib.hid (HB11.out.trans (hb12.mono HB11.out.size))
      clear hb12 HY11 HN11 HO11 HP11 HB11
      have hb13 : Below w12.heap.size w12 (w12.alloc (.cells #[.string x] 9)) := (Below.refl _ w12).alloc (Nat.le_refl _) _
      have hx13 := cell_of_blk (blk_new w12 (.cells #[.string x] 9)) 0 (v := .string x) rfl
      have HY13 := Lib.hid (DocAt.later HY12.out hb13)
      have HN13 := Lib.hid (DocAt.later HN12.out hb13)
      have HO13 := Lib.hid (HO12.out.below hb13)
      have HP13 := Lib.hid (HP12.out.below hb13)
      have HB13 := Lib.hid (HB12.out.trans (hb13.mono HB12.out.size))
      have HR13 := Lib.hid (HR.out x _ _ hxs hx13)
      clear hb13 hx13 HY12 HN12 HO12 HP12 HB12
      go_wp2_with fail
      generalize w12.alloc (.cells #[.string x] 9) = w13 at HY13 HN13 HO13 HP13 HB13 HR13 ⊢
      generalize w12.heap.size = sb at HR13 ⊢
      refine HR13.out.mono ?_
      rintro e w14 ⟨rfl, hb14⟩
      have HY14 := Lib.hid (DocAt.later HY13.out hb14)
      have HN14 := Lib.hid (DocAt.later HN13.out hb14)
      have HO14 := Lib.hid (HO13.out.below hb14)
      have HP14 := Lib.hid (HP13.out.below hb14)
      have HB14 := Lib.hid (HB13.out.trans (hb14.mono HB13.out.size))
      clear hb14 HY13 HN13 HO13 HP13 HB13 HR13
      by_cases hg0 : g = 0
      case neg =>
        have b1 : (g == 0) = false := beq_eq_false_iff_ne.2 hg0
        have b2 : (g != 0) = true := by rw [bne, b1]; rfl
        clear hg0
        go_wp2_with fail
        refine ⟨⟨k + 1, hlt, rfl, HB14.out⟩, ?_⟩
        show 3 - ((k : Int) + 1).toNat < 3 - (k : Int).toNat
        omega
      case pos =>
        obtain ⟨hq0, hqe⟩ := HAg.out hg0
        have b1 : (g == 0) = true := beq_iff_eq.2 hg0
        have b2 : (g != 0) = false := by rw [bne, b1]; rfl
        have hEq := efit_of_chk hq0
        have hxx : (x.toList == x.toList) = true := beq_self_eq_true _
        have hxx2 : (x.toList != x.toList) = false := by rw [bne, hxx]; rfl
        have hBw14 := HB6.out.trans (HB14.out.mono HB6.out.size)
        have hen := encode_all q d1 w14 HO14.out.m hEq (HVw.out.below hBw14)
        rw [hqe] at hen
        unfold docV at hen
        have HEn := Lib.hid hen
        clear hg0 hq0 hqe hEq hBw14 hen
        go_wp2_with (first | refine wpList_doc rfl _ rfl db d1 rfl HN14.out ?_ | fail)
        refine HEn.out.mono ?_
        rintro e w15 ⟨rfl, hb15⟩
        have HY15 := Lib.hid (DocAt.later HY14.out hb15)
        have HN15 := Lib.hid (DocAt.later HN14.out hb15)
        have HO15 := Lib.hid (HO14.out.below hb15)
        have HP15 := Lib.hid (HP14.out.below hb15)
        have HB15 := Lib.hid (HB14.out.trans (hb15.mono HB14.out.size))
        clear hb15 HY14 HN14 HO14 HP14 HB14 HEn
        obtain ⟨a2, cc2, ed2, hs15, ht15⟩ := HO15.out
        have eqd := HEd.out.symm.trans ed2
        have ea5 : a1 5 = a2 5 := congrArg DV.lad eqd
        have ec5 : cc1 5 = cc2 5 := congrArg DV.lc eqd
        have ea4 : a1 4 = a2 4 := congrArg (fun d => d.s4.ad) eqd
        have ec4 : cc1 4 = cc2 4 := congrArg (fun d => d.s4.c) eqd
        rw [ea5, ec5] at HL5
        rw [ea4, ec4] at HL4
        have hn15 := HN15.out
        rw [ed2] at hn15
        have c15 := cell_of_blk hn15 15 (v := .slice (a2 5) q.T.length (cc2 5)) rfl
        have hsp := sp_of ht15
        have hsq := sp_of (hs15 4 q.s4 rfl)
        have hbase5 : ∀ g, a2 5 = some ⟨g, 0, none⟩ → wr.heap.size ≤ g ∧ g < db := fun g hg => HL5.out g (by rw [hg]; rfl)
        have hbase4 : ∀ g, a2 4 = some ⟨g, 0, none⟩ → wr.heap.size ≤ g ∧ g < db := fun g hg => HL4.out g (by rw [hg]; rfl)
        have hwo : w6.heap.size ≤ wr.heap.size := HBs.out.size
        have hlT : q.T.length ≤ 100000000 := HFit.out.T
        have hlW : q.s4.1.length ≤ 100000000 := HFit.out.S q.s4 (by simp [PD.S])
        obtain ⟨B0, hB0⟩ : ∃ B0, B0 = wr.heap.size := ⟨_, rfl⟩
        rw [← hB0] at hbase5 hbase4 hwo
        have HN := Lib.hid hn15
        have HSp := Lib.hid hsp
        have HSq := Lib.hid hsq
        have HB5' := Lib.hid hbase5
        have HB4' := Lib.hid hbase4
        clear eqd ea5 ec5 ea4 ec4 hn15 hsp hsq hbase5 hbase4 hs15 ht15 HL5 HL4 HEd hB0
        go_wp2_with fail
        clear c15
        go_loopw [103] (fun i wr => SpRel 65 3 w15 (a2 5) q.T.length i wr) (fun i _ => q.T.length - (intOf i).toNat)
        case atStart => exact ⟨0, Nat.zero_le _, rfl, HSp.out⟩
        case round =>
          obtain ⟨j, hj, rfl, hsp⟩ := hrel
          have HSw := Lib.hid hsp
          have hnx : DocAt wr db (dvP q a2 cc2) := blk_kp HN.out hsp.kp (fun hg => by have := (HB5'.out db hg.2).2; omega)
          have HNx := Lib.hid hnx
          by_cases hjl : j < q.T.length
          case pos =>
            have c15 := cell_of_blk hnx 15 (v := .slice (a2 5) q.T.length (cc2 5)) rfl
            obtain ⟨g', v', ha', hc', hfz', hglt, hset⟩ := hsp.cell hjl (j := 2) (by decide)
            have hset' := hset (.string ⟨#[115, 112, 111, 105, 108, 116]⟩)
            have HSet := Lib.hid hset'
            have hj0 : (0 : Int) ≤ (j : Int) := Int.natCast_nonneg _
            have hj1 : (j : Int) < (q.T.length : Int) := by omega
            rw [ha'] at c15
            clear hsp hnx hset hset'
            go_wp2_with fail
            refine ⟨⟨j + 1, hjl, rfl, HSet.out⟩, ?_⟩
            show q.T.length - ((j : Int) + 1).toNat < q.T.length - (j : Int).toNat
            omega
          case neg =>
            obtain rfl : j = q.T.length := by omega
            -- the witness's IDs
            have hrow : 0 < q.s4.1.length → ∃ g cur, a2 4 = some ⟨g, 0, none⟩ ∧ wr.heap[g]? = some (.cells cur 9 (0, 0)) ∧ q.s4.1.length * 1 ≤ cur.size := by
              intro h0
              obtain ⟨g4, cur4, ha4, hh4, hz4⟩ := HSq.out.row h0
              refine ⟨g4, cur4, ha4, blk_kp hh4 hsp.kp (fun hg => ?_), hz4⟩
              obtain ⟨g5, cur5, ha5, hh5, -⟩ := HSp.out.row hg.1
              have e5 : g5 = g4 := by
                have h := ha5.symm.trans hg.2
                injection h with h
                injection h
              subst e5
              rw [hh5] at hh4
              injection hh4 with h3
              injection h3 with h4 h5 h6
              exact absurd h5 (by decide)
            have HSq2 : Hid (Sp 9 1 wr (a2 4) q.s4.1.length wr) := Lib.hid ⟨Kp.refl _ _, hrow⟩
            have c11 := cell_of_blk hnx 11 (v := .slice (a2 4) q.s4.1.length (cc2 4)) rfl
            have hkp1 := hsp.kp
            have HK1 := Lib.hid hkp1
            obtain ⟨wq, hwq⟩ : ∃ wq, wq = wr := ⟨_, rfl⟩
            have HWq := Lib.hid hwq
            clear hrow hsp hnx hkp1 HSw hwq
            go_wp2_with fail
            clear c11
            rw [← HWq.out] at HSq2 HNx HK1 ⊢
            go_loopw [116] (fun i wr => SpRel 9 1 wq (a2 4) q.s4.1.length i wr) (fun i _ => q.s4.1.length - (intOf i).toNat)
            case atStart => exact ⟨0, Nat.zero_le _, rfl, HSq2.out⟩
            case round =>
              obtain ⟨j2, hj2, rfl, hsp2⟩ := hrel
              have hnx2 : DocAt wr db (dvP q a2 cc2) := blk_kp HNx.out hsp2.kp (fun hg => by have := (HB4'.out db hg.2).2; omega)
              by_cases hjl2 : j2 < q.s4.1.length
              case pos =>
                have c11 := cell_of_blk hnx2 11 (v := .slice (a2 4) q.s4.1.length (cc2 4)) rfl
                obtain ⟨g', v', ha', hc', hfz', hglt, hset⟩ := hsp2.cell hjl2 (j := 0) (by decide)
                have hset' := hset (.string ⟨#[115, 112, 111, 105, 108, 116]⟩)
                rw [Nat.mul_one, Nat.add_zero] at hc' hfz' hset'
                have HSet := Lib.hid hset'
                have hj0 : (0 : Int) ≤ (j2 : Int) := Int.natCast_nonneg _
                have hj1 : (j2 : Int) < (q.s4.1.length : Int) := by omega
                rw [ha'] at c11
                clear hsp2 hnx2 hset hset'
                go_wp2_with fail
                refine ⟨⟨j2 + 1, hjl2, rfl, HSet.out⟩, ?_⟩
                show q.s4.1.length - ((j2 : Int) + 1).toNat < q.s4.1.length - (j2 : Int).toNat
                omega
              case neg =>
                obtain rfl : j2 = q.s4.1.length := by omega
                have hk2 := hsp2.kp
                have hsize : w15.heap.size ≤ wr.heap.size := Nat.le_trans HK1.out.size hk2.size
                have hbw : Below w6.heap.size w6 wr := HB15.out.trans ((HK1.out.toBelow HB15.out.size (fun i hi => by have := (HB5'.out i hi.2).1; omega)).trans (hk2.toBelow (Nat.le_trans HB15.out.size HK1.out.size) (fun i hi => by have := (HB4'.out i hi.2).1; omega)))
                have hy : DocAt wr yb d2 := blk_kp (blk_kp HY15.out HK1.out (fun hg => by have := (HB5'.out yb hg.2).2; omega)) hk2 (fun hg => by have := (HB4'.out yb hg.2).2; omega)
                have hp := (HP15.out.kp HK1.out (fun g hg hx => by have := (HB5'.out g hx.2).2; omega)).kp hk2 (fun g hg hx => by have := (HB4'.out g hx.2).2; omega)
                have HBw := Lib.hid hbw
                have HYw := Lib.hid hy
                have HPw := Lib.hid hp
                have hBww := HB6.out.trans (hbw.mono HB6.out.size)
                have HDe := Lib.hid (H1.out wr (HVw.out.below hBww))
                clear hk2 hsp2 hnx2 hbw hy hp hBww hsize HK1 HNx HSq2 HWq
                go_wp2_with fail
                refine HDe.out.mono ?_
                rintro e w20 ⟨d3, rfl, ho3, hb20⟩
                have hB20 := HBw.out.trans (hb20.mono HBw.out.size)
                have hY20 : DocAt w20 yb d2 := HYw.out.later hb20
                obtain ⟨hn21, hb21⟩ := doc_new w20 d3
                have hd21 : DocAt (w20.alloc (.cells (docC dz) 30)) w20.heap.size dz := blk_new _ _
                have HZ21 := Lib.hid hd21
                have HN21 := Lib.hid hn21
                have HY21 : Hid (DocAt _ yb d2) := Lib.hid (hY20.later hb21)
                have hS2 := same_all q q d3 d2 _ (ho3.below hb21).m (HPw.out.below hb20 |>.below hb21).m HFit.out HFit.out
                rw [sameP_refl] at hS2
                unfold docV at hS2
                have HS2 := Lib.hid hS2
                have HB21 := Lib.hid (hB20.trans (hb21.mono hB20.size))
                obtain ⟨wa, hwa⟩ : ∃ wa, wa = w20.alloc (.cells (docC dz) 30) := ⟨_, rfl⟩
                rw [← hwa] at HS2 HB21
                have hwa' := hwa
                simp only [docC, dz, sz] at hwa'
                clear ho3 hb20 hB20 hY20 hn21 hb21 hd21 hS2
                go_wp2_with (first | refine wpList_docst rfl _ _ rfl w20.heap.size dz d3 rfl rfl HZ21.out ?_ | refine wpList_doc rfl _ rfl w20.heap.size d3 rfl HN21.out ?_ | refine wpList_doc rfl _ rfl yb d2 rfl HY21.out ?_ | fail)
                rw [← hwa']
                clear hwa' HZ21 HN21 HY21
                refine HS2.out.mono ?_
                rintro e w22 ⟨rfl, hb22⟩
                have HB22 := Lib.hid (HB21.out.trans (hb22.mono HB21.out.size))
                clear hb22
                go_wp2_with fail
                refine ⟨⟨k + 1, hlt, rfl, HB22.out⟩, ?_⟩
                show 3 - ((k : Int) + 1).toNat < 3 - (k : Int).toNat
                omega

/-! ### a body's hash: the program's and the document's -/
def hsB (b : ByteArray) : ByteArray := shaB (catN (fun _ => b) 1)
theorem strs1 {w : World} {g : Nat} {b : ByteArray} (h : w.cell? ⟨g, 0, none⟩ = some (.string b)) : Strs w (some ⟨g, 0, none⟩) 1 (fun _ => b) := by
  intro j hj
  obtain rfl : j = 0 := by omega
  exact ⟨g, 0, rfl, h⟩
theorem cat1_size (b : ByteArray) (hb : b.size ≤ 100000000) : (catN (fun _ => b) 1).size ≤ 70368744160000 := by
  have e : catN (fun _ => b) 1 = catN (fun _ => b) 0 ++ b := rfl
  rw [e, ByteArray.size_append]
  have e0 : (catN (fun _ => b) 0).size = 0 := rfl
  omega
theorem hashR : HashR hsB := fun b W g hb hc => refsum_any (some ⟨g, 0, none⟩) 1 1 (fun _ => b) W (strs1 hc) (by decide) (cat1_size b hb)
set_option maxRecDepth 100000 in
theorem hashM : HashM hsB := fun b w hb => by
  have hx := cell_of_blk (blk_new w (.cells #[.string b] 9)) 0 (v := .string b) rfl
  have HC := Lib.hid (sum_any (some ⟨w.heap.size, 0, none⟩) 1 1 (fun _ => b) _ (strs1 hx) (by decide) (cat1_size b hb))
  have HB := Lib.hid ((Below.refl w.heap.size w).alloc (Nat.le_refl _) (.cells #[.string b] 9))
  unfold hsB
  clear hx
  go_enter Tryz.func27, Tryz.ntmps27
  go_wp2_with fail
  refine HC.out.mono ?_
  rintro e w1 ⟨rfl, hb1⟩
  have HB1 := Lib.hid (HB.out.trans (hb1.mono HB.out.size))
  clear hb1
  go_wp2_with fail
  go_ret
  exact ⟨rfl, HB1.out⟩
theorem metadocs_all (p : PD) (d : DV) (body : ByteArray) (w : World) (h : DocM w d p) (hf : EFit p) (hb : body.size ≤ 10000000) (hV : VarsP w) :
    Calls Tryz.prog 6 #[docV d, .string body] w fun e w' => e = .returned (.bool true) ∧ Below w.heap.size w w' :=
  metadocs_any hsB hashM hashR p d body w h hf hb (Nat.le_trans (encD_size p) (by decide)) hV
end Go.Proofs.YtmejjphliaiamaaGreatDoor
