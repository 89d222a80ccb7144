import Derived.Test.YtmejjphliaiamaaGreatDoorMeH
import Derived.Deep.QuietTactic
import Derived.BigQuiet
import Derived.StillTail
import Derived.Lib.QuietBelow
set_option linter.unusedVariables false
set_option linter.unusedSimpArgs false
namespace Go.Proofs.YtmejjphliaiamaaGreatDoor
open Go Go.RowKit Go.Lib Go.Sort

/-! ### the same texts, sets, documents -/
def TxM (w : World) (ad : Option Addr) (L : List ByteArray) : Prop := ∀ i t, L[i]? = some t → ∃ pb po, ad = some ⟨pb, po, none⟩ ∧ w.cell? ⟨pb, po + i, none⟩ = some (.string t)
theorem TxM.below {w w' : World} {ad : Option Addr} {L : List ByteArray} (h : TxM w ad L) (k : Below w.heap.size w w') : TxM w' ad L := by
  intro i f hf
  obtain ⟨pb, po, e, h1⟩ := h i f hf
  exact ⟨pb, po, e, (k.cell (cell_lt h1)).trans h1⟩
def StRel (L M : List ByteArray) (w : World) (i : Value) (wr : World) : Prop := ∃ k : Nat, k ≤ L.length ∧ i = .int .i64 k ∧ L.take k = M.take k ∧ Below w.heap.size w wr
set_option maxRecDepth 100000 in
set_option maxHeartbeats 1000000 in
theorem sametx_any (ad bd : Option Addr) (L M : List ByteArray) (c d : Nat) (w : World) (hn : L.length ≤ 100000000) (hm : M.length ≤ 100000000) (hL : TxM w ad L) (hM : TxM w bd M) :
    Calls Tryz.prog 113 #[.slice ad L.length c, .slice bd M.length d] w fun e w' => e = .returned (.bool (decide (L = M))) ∧ Below w.heap.size w w' := by
  have HL := Lib.hid hL
  have HM := Lib.hid hM
  clear hL hM
  by_cases hlen : L.length = M.length
  · have b1 : ((L.length : Int) == (M.length : Int)) = true := beq_iff_eq.2 (by omega)
    have b2 : ((L.length : Int) != (M.length : Int)) = false := by rw [bne, b1]; rfl
    have hle : (M.length : Int) = (L.length : Int) := by omega
    have HLe := Lib.hid hlen
    obtain ⟨res, hres⟩ : ∃ res, res = decide (L = M) := ⟨_, rfl⟩
    rw [← hres]
    have HRs := Lib.hid hres
    clear hlen hle hres
    go_enter Tryz.func113, Tryz.ntmps113
    go_wp2_with fail
    go_loopw [5] (fun i wr => StRel L M w i wr) (fun i _ => L.length - (intOf i).toNat)
    case atStart => exact ⟨0, Nat.zero_le _, rfl, rfl, Below.refl _ _⟩
    case round =>
      obtain ⟨k, hk, rfl, ht, hB⟩ := hrel
      have HB := Lib.hid hB
      have HT := Lib.hid ht
      clear hB ht
      by_cases hlt : k < L.length
      · have hlt2 : k < M.length := by have := HLe.out; omega
        obtain ⟨pb, po, rfl, s0⟩ := (HL.out.below HB.out) k L[k] (List.getElem?_eq_getElem hlt)
        obtain ⟨qb, qo, rfl, t0⟩ := (HM.out.below HB.out) k M[k] (List.getElem?_eq_getElem hlt2)
        have e1 : L.take (k + 1) = L.take k ++ [L[k]] := List.take_succ_eq_append_getElem hlt
        have e2 : M.take (k + 1) = M.take k ++ [M[k]] := List.take_succ_eq_append_getElem hlt2
        have e3 : L = M → L[k] = M[k] := fun h => by subst h; rfl
        generalize L[k] = x at s0 e1 e3
        generalize M[k] = y at t0 e2 e3
        have E1 := Lib.hid e1
        have E2 := Lib.hid e2
        have E3 := Lib.hid e3
        have hk0 : (0 : Int) ≤ (k : Int) := Int.natCast_nonneg _
        have hk1 : (k : Int) < (L.length : Int) := by omega
        have hk2 : (k : Int) < (M.length : Int) := by omega
        have hne := toList_eqbV x y
        obtain ⟨bq, hbq⟩ : ∃ bq, bq = decide (x = y) := ⟨_, rfl⟩
        rw [← hbq] at hne
        have HBq := Lib.hid hbq
        clear hbq
        have s0r := cell_regrown s0
        have t0r := cell_regrown t0
        clear e1 e2 e3
        go_wp2_with fail
        refine wp_region_quiet_below (by kernel_rfl) (by kernel_rfl) ?_
        repeat quiet_step (fail)
        refine wpQuiet_nil ?_
        intro w5 hw5
        obtain ⟨⟨dq, osq⟩, hw''⟩ := hw5
        have hb5 : Below wr.heap.size wr w5 := by rw [hw'']; exact below_regrown wr dq osq
        have H5 := Lib.hid (HB.out.trans (hb5.mono HB.out.size))
        clear hw'' hb5 s0r t0r s0 t0
        cases bq with
        | true =>
          have hxy : x = y := of_decide_eq_true HBq.out.symm
          have hnew : L.take (k + 1) = M.take (k + 1) := by rw [E1.out, E2.out, HT.out, hxy]
          have HNew := Lib.hid hnew
          clear hnew hxy
          go_wp2_with fail
          refine ⟨⟨k + 1, hlt, rfl, HNew.out, H5.out⟩, ?_⟩
          show L.length - ((k : Int) + 1).toNat < L.length - (k : Int).toNat
          omega
        | false =>
          have hxy : ¬ x = y := of_decide_eq_false HBq.out.symm
          have hr : res = false := by rw [HRs.out]; exact decide_eq_false (fun h => hxy (E3.out h))
          have HR := Lib.hid hr
          clear hr hxy
          go_wp2_with fail
          go_ret
          rw [HR.out]
          exact ⟨rfl, H5.out⟩
      · obtain rfl : k = L.length := by omega
        have hr : res = true := by
          rw [HRs.out]
          refine decide_eq_true ?_
          have h := HT.out
          rwa [List.take_length, List.take_of_length_le (by have := HLe.out; omega)] at h
        have HR := Lib.hid hr
        clear hr
        go_wp2_with fail
        go_ret
        rw [HR.out]
        exact ⟨rfl, HB.out⟩
  · have b1 : ((L.length : Int) == (M.length : Int)) = false := beq_eq_false_iff_ne.2 (by omega)
    have b2 : ((L.length : Int) != (M.length : Int)) = true := by rw [bne, b1]; rfl
    rw [decide_eq_false (show ¬ L = M from fun h => hlen (by rw [h]))]
    have hle : ¬ (L.length : Int) = (M.length : Int) := by omega
    go_enter Tryz.func113, Tryz.ntmps113
    go_wp2_with fail
    go_ret
    exact ⟨rfl, Below.refl _ _⟩

abbrev SetT := List ByteArray × Int
def SetM (w : World) (s : SV) (S : SetT) : Prop := s.n = S.1.length ∧ s.need = S.2 ∧ TxM w s.ad S.1
theorem SetM.below {w w' : World} {s : SV} {S : SetT} (h : SetM w s S) (k : Below w.heap.size w w') : SetM w' s S := ⟨h.1, h.2.1, h.2.2.below k⟩
set_option maxRecDepth 100000 in
theorem sameset_any (s t : SV) (S T : SetT) (w : World) (hn : S.1.length ≤ 100000000) (hm : T.1.length ≤ 100000000) (hS : SetM w s S) (hT : SetM w t T) :
    Calls Tryz.prog 46 #[.agg #[.slice s.ad s.n s.c, .int .i64 s.need], .agg #[.slice t.ad t.n t.c, .int .i64 t.need]] w fun e w' => e = .returned (.bool (decide (S.2 = T.2) && decide (S.1 = T.1))) ∧ Below w.heap.size w w' := by
  obtain ⟨s1, s2, s3⟩ := hS
  obtain ⟨t1, t2, t3⟩ := hT
  rw [s1, s2, t1, t2]
  have hK : Below w.heap.size w ((w.alloc (.cells #[.slice s.ad S.1.length s.c, .int .i64 S.2] 24)).alloc (.cells #[.slice t.ad T.1.length t.c, .int .i64 T.2] 24)) := ((Below.refl _ w).alloc (Nat.le_refl _) _).alloc (by rw [size_alloc]; omega) _
  have HK := Lib.hid hK
  have HC := Lib.hid (sametx_any s.ad t.ad S.1 T.1 s.c t.c _ hn hm (s3.below hK) (t3.below hK))
  generalize decide (S.1 = T.1) = q at HC ⊢
  clear hK s1 s2 s3 t1 t2 t3
  by_cases h : S.2 = T.2
  · have b1 : (S.2 == T.2) = true := beq_iff_eq.2 h
    rw [decide_eq_true h]
    clear h
    go_enter Tryz.func46, Tryz.ntmps46
    go_wp2_with fail
    refine HC.out.mono ?_
    rintro e w5 ⟨rfl, hb⟩
    have HB := Lib.hid (HK.out.trans (hb.mono HK.out.size))
    clear hb
    go_wp2_with fail
    go_ret
    exact ⟨by cases q <;> rfl, HB.out⟩
  · have b1 : (S.2 == T.2) = false := beq_eq_false_iff_ne.2 h
    rw [decide_eq_false h]
    clear h HC
    go_enter Tryz.func46, Tryz.ntmps46
    go_wp2_with fail
    go_ret
    exact ⟨rfl, HK.out⟩

/-! ### the same documents -/
abbrev TgtT := Int × Int × ByteArray
def TgM (w : World) (ad : Option Addr) (L : List TgtT) : Prop := ∀ i t, L[i]? = some t → ∃ pb po, ad = some ⟨pb, po, none⟩ ∧ w.cell? ⟨pb, po + i * 3, none⟩ = some (.int .i64 t.1) ∧ w.cell? ⟨pb, po + i * 3 + 1, none⟩ = some (.int .i64 t.2.1) ∧ w.cell? ⟨pb, po + i * 3 + 2, none⟩ = some (.string t.2.2)
theorem TgM.below {w w' : World} {ad : Option Addr} {L : List TgtT} (h : TgM w ad L) (k : Below w.heap.size w w') : TgM w' ad L := by
  intro i f hf
  obtain ⟨pb, po, e, h1, h2, h3⟩ := h i f hf
  exact ⟨pb, po, e, (k.cell (cell_lt h1)).trans h1, (k.cell (cell_lt h2)).trans h2, (k.cell (cell_lt h3)).trans h3⟩
theorem ne_tgt (w : World) (x y : TgtT) : (binOp .neq 65 (.agg #[.int .i64 x.1, .int .i64 x.2.1, .string x.2.2]) (.agg #[.int .i64 y.1, .int .i64 y.2.1, .string y.2.2])).run Tryz.prog w = .ok (.bool (!decide (x = y))) w := by
  have u5 := Tryz.underlying9
  have hS : Tryz.prog.underlying 65 = some (.struct (Tryz.prog.fieldsOf 65)) := by kernel_rfl
  have hp : Tryz.prog.stoodInHeld 65 = false := by kernel_rfl
  obtain ⟨a, b, c⟩ := x
  obtain ⟨a2, b2, c2⟩ := y
  dsimp only
  rw [run_neq_struct, show (10000 : Nat) = 9999 + 1 from rfl, run_equalIn_agg w 9999 65 _ _ hS hp]
  simp only [Program.fieldsOf, Tryz.underlying65]
  by_cases h1 : a = a2
  · subst h1
    by_cases h2 : b = b2
    · subst h2
      by_cases h3 : c = c2
      · subst h3
        rw [decide_eq_true rfl]
        go_simp
      · have e1 : (c.toList == c2.toList) = false := by rw [toList_eqbV]; exact decide_eq_false h3
        rw [decide_eq_false (fun h => h3 (congrArg (fun z => z.2.2) h))]
        go_simp
    · have e1 : (b == b2) = false := beq_eq_false_iff_ne.2 h2
      rw [decide_eq_false (fun h => h2 (congrArg (fun z => z.2.1) h))]
      go_simp
  · have e1 : (a == a2) = false := beq_eq_false_iff_ne.2 h1
    rw [decide_eq_false (fun h => h1 (congrArg (fun z => z.1) h))]
    go_simp
def ptEq (d e : DV) : Bool := decide (d.pO = e.pO ∧ d.pS = e.pS ∧ d.pR = e.pR)
theorem eq_pts (w : World) (d e : DV) : (binOp .eql 28 (.agg #[.string d.pO, .int .i64 d.pS, .string d.pR]) (.agg #[.string e.pO, .int .i64 e.pS, .string e.pR])).run Tryz.prog w = .ok (.bool (ptEq d e)) w := by
  have u5 := Tryz.underlying9
  have hS : Tryz.prog.underlying 28 = some (.struct (Tryz.prog.fieldsOf 28)) := by kernel_rfl
  have hp : Tryz.prog.stoodInHeld 28 = false := by kernel_rfl
  unfold ptEq
  generalize d.pO = a
  generalize d.pS = n
  generalize d.pR = c
  generalize e.pO = a2
  generalize e.pS = n2
  generalize e.pR = c2
  rw [run_eql_struct, show (10000 : Nat) = 9999 + 1 from rfl, run_equalIn_agg w 9999 28 _ _ hS hp]
  simp only [Program.fieldsOf, Tryz.underlying28]
  by_cases h1 : a = a2
  · subst h1
    by_cases h2 : n = n2
    · subst h2
      by_cases h3 : c = c2
      · subst h3
        rw [decide_eq_true ⟨rfl, rfl, rfl⟩]
        go_simp
      · have e1 : (c.toList == c2.toList) = false := by rw [toList_eqbV]; exact decide_eq_false h3
        rw [decide_eq_false (fun h => h3 h.2.2)]
        go_simp
    · have e1 : (n == n2) = false := beq_eq_false_iff_ne.2 h2
      rw [decide_eq_false (fun h => h2 h.2.1)]
      go_simp
  · have e1 : (a.toList == a2.toList) = false := by rw [toList_eqbV]; exact decide_eq_false h1
    rw [decide_eq_false (fun h => h1 h.1)]
    go_simp
abbrev SameC (d e : DV) (sb : Nat → Bool) (w : World) : Prop := ∀ k s t W, (setL d)[k]? = some s → (setL e)[k]? = some t → Below w.heap.size w W →
  Calls Tryz.prog 46 #[.agg #[.slice s.ad s.n s.c, .int .i64 s.need], .agg #[.slice t.ad t.n t.c, .int .i64 t.need]] W fun e w' => e = .returned (.bool (sb k)) ∧ Below W.heap.size W w'
def restE (d e : DV) (sb : Nat → Bool) : Bool := decide (d.kind = e.kind) && (decide (d.ver = e.ver) && (decide (d.exp = e.exp) && (sb 4 && (decide (d.log = e.log) && (decide (d.org = e.org) && (ptEq d e && (decide (d.of = e.of) && decide (d.hash = e.hash))))))))
def sameB (d e : DV) (sb : Nat → Bool) (L M : List TgtT) : Bool := (sb 0 && (sb 1 && (sb 2 && sb 3))) && (decide (L = M) && restE d e sb)
theorem setA_at (d : DV) (b : Nat) (w : World) (h : DocAt w b d) (k : Nat) (hk : k < 4) : ∃ s, (setL d)[k]? = some s ∧ w.cell? ⟨b, 3 + k * 2, none⟩ = some (.slice s.ad s.n s.c) ∧ w.cell? ⟨b, 3 + k * 2 + 1, none⟩ = some (.int .i64 s.need) := by
  obtain ⟨s, h1, h2, h3⟩ := setL_at d b w h k (by omega)
  rw [Nat.mul_comm 2 k] at h2 h3
  exact ⟨s, h1, h2, h3⟩
def SmRel (sb : Nat → Bool) (w1 : World) (i : Value) (wr : World) : Prop := ∃ k : Nat, k ≤ 4 ∧ i = .int .i64 k ∧ (∀ j, j < k → sb j = true) ∧ Below w1.heap.size w1 wr
def SlRel (L M : List TgtT) (w1 : World) (i : Value) (wr : World) : Prop := ∃ k : Nat, k ≤ L.length ∧ i = .int .i64 k ∧ L.take k = M.take k ∧ Below w1.heap.size w1 wr

set_option maxRecDepth 100000 in
set_option maxHeartbeats 8000000 in
theorem samedoc_any (d e : DV) (sb : Nat → Bool) (L M : List TgtT) (w : World) (hn : L.length ≤ 100000000) (hm : M.length ≤ 100000000) (h1 : d.ln = L.length) (h2 : e.ln = M.length) (hL : TgM w d.lad L) (hM : TgM w e.lad M) (hs : SameC d e sb w) :
    Calls Tryz.prog 12 #[docV d, docV e] w fun en w' => en = .returned (.bool (sameB d e sb L M)) ∧ Below w.heap.size w w' := by
  obtain ⟨w1, hw1⟩ : ∃ w1, w1 = (w.alloc (.cells (docC d) 30)).alloc (.cells (docC e) 30) := ⟨_, rfl⟩
  have hd : DocAt w1 w.heap.size d := by rw [hw1]; exact blk_alloc (blk_new w _) _
  have he : DocAt w1 (w.heap.size + 1) e := by
    rw [hw1]
    have h := blk_new (w.alloc (.cells (docC d) 30)) (.cells (docC e) 30)
    rw [size_alloc] at h
    exact h
  have hB : Below w.heap.size w w1 := by rw [hw1]; exact ((Below.refl _ w).alloc (Nat.le_refl _) _).alloc (by rw [size_alloc]; omega) _
  obtain ⟨R, hR⟩ : ∃ R, R = sameB d e sb L M := ⟨_, rfl⟩
  rw [← hR]
  unfold sameB at hR
  have HR := Lib.hid hR
  have HD := Lib.hid hd
  have HE := Lib.hid he
  have HB := Lib.hid hB
  have HL := Lib.hid hL
  have HM := Lib.hid hM
  have HS := Lib.hid hs
  have H1 := Lib.hid h1
  have H2 := Lib.hid h2
  unfold docV
  clear hR hd he hB hL hM hs h1 h2
  go_enter Tryz.func12, Tryz.ntmps12
  go_wp2_with fail
  rw [← hw1]
  clear hw1
  go_loopw [5] (fun i wr => SmRel sb w1 i wr) (fun i _ => 4 - (intOf i).toNat)
  case atStart => exact ⟨0, Nat.zero_le _, rfl, fun j hj => absurd hj (Nat.not_lt_zero _), Below.refl _ _⟩
  case round =>
    obtain ⟨k, hk, rfl, ha, hb⟩ := hrel
    have HA := Lib.hid ha
    have HBr := Lib.hid hb
    have HDr := Lib.hid (HD.out.later hb)
    have HEr := Lib.hid (HE.out.later hb)
    have HBw := Lib.hid (HB.out.trans (hb.mono HB.out.size))
    clear ha hb
    by_cases hlt4 : k < 4
    · obtain ⟨s, hs, c1, c2⟩ := setA_at d _ wr HDr.out k hlt4
      obtain ⟨t, ht, c3, c4⟩ := setA_at e _ wr HEr.out k hlt4
      have hk0 : (0 : Int) ≤ (k : Int) := Int.natCast_nonneg _
      have hk1 : (k : Int) < 4 := by omega
      have cP : ∀ dd os, Calls Tryz.prog 46 #[.agg #[.slice s.ad s.n s.c, .int .i64 s.need], .agg #[.slice t.ad t.n t.c, .int .i64 t.need]] (grow (redrawn wr dd) os) fun e w'' => e = .returned (.bool (sb k)) ∧ ∃ p : Regrown, w'' = grow (redrawn wr p.d) p.os :=
        fun dd os => Calls.regrown_of (HS.out k s t _ hs ht (HBw.out.trans ((below_regrown wr dd os).mono HBw.out.size)))
      have c1r := cell_regrown c1
      have c2r := cell_regrown c2
      have c3r := cell_regrown c3
      have c4r := cell_regrown c4
      clear hs ht c1 c2 c3 c4
      go_wp2_with fail
      refine wp_region_quiet_below (by kernel_rfl) (by kernel_rfl) ?_
      repeat quiet_step (with_reducible exact cP _ _)
      refine wpQuiet_nil ?_
      intro w5 hw5
      obtain ⟨⟨dq, osq⟩, hw''⟩ := hw5
      have hb5 : Below wr.heap.size wr w5 := by rw [hw'']; exact below_regrown wr dq osq
      have H5 := Lib.hid (HBr.out.trans (hb5.mono HBr.out.size))
      have H5w := Lib.hid (HBw.out.trans (hb5.mono HBw.out.size))
      clear hw'' hb5 c1r c2r c3r c4r cP
      cases hsb : sb k with
      | true =>
        have HSb := Lib.hid hsb
        clear hsb
        go_wp2_with fail
        refine ⟨⟨k + 1, hlt4, rfl, fun j hj => ?_, H5.out⟩, ?_⟩
        · rcases Nat.lt_or_ge j k with h | h
          · exact HA.out j h
          · obtain rfl : j = k := by omega
            exact HSb.out
        · show 4 - ((k : Int) + 1).toNat < 4 - (k : Int).toNat
          omega
      | false =>
        have hr : R = false := by
          rw [HR.out]
          have : (sb 0 && (sb 1 && (sb 2 && sb 3))) = false := by
            have h4 : k = 0 ∨ k = 1 ∨ k = 2 ∨ k = 3 := by omega
            rcases h4 with rfl | rfl | rfl | rfl <;> rw [hsb] <;> simp
          rw [this]
          rfl
        have HX := Lib.hid hr
        clear hr hsb
        go_wp2_with fail
        go_ret
        rw [HX.out]
        exact ⟨rfl, H5w.out⟩
    · have hk4 : (k : Int) = 4 := by omega
      have hA4 : ∀ j, j < 4 → sb j = true := fun j hj => HA.out j (by omega)
      rw [hk4]
      clear hk4 hk hlt4
      have hsb4 : (sb 0 && (sb 1 && (sb 2 && sb 3))) = true := by rw [hA4 0 (by decide), hA4 1 (by decide), hA4 2 (by decide), hA4 3 (by decide)]; rfl
      have hR : R = (decide (L = M) && restE d e sb) := by rw [HR.out, hsb4]; rfl
      have HR2 := Lib.hid hR
      have z15 := cell_of_blk HDr.out 15 (v := .slice d.lad d.ln d.lc) rfl
      have y15 := cell_of_blk HEr.out 15 (v := .slice e.lad e.ln e.lc) rfl
      rw [H1.out] at z15
      rw [H2.out] at y15
      clear hsb4 hR HR HA hA4
      by_cases hlen : L.length = M.length
      case neg =>
        have b1 : ((L.length : Int) == (M.length : Int)) = false := beq_eq_false_iff_ne.2 (by omega)
        have b2 : ((L.length : Int) != (M.length : Int)) = true := by rw [bne, b1]; rfl
        have hle : ¬ (L.length : Int) = (M.length : Int) := by omega
        have hr : R = false := by rw [HR2.out, decide_eq_false (fun h => hlen (by rw [h]))]; rfl
        have HX := Lib.hid hr
        clear hr
        go_wp2_with fail
        go_ret
        rw [HX.out]
        exact ⟨rfl, HBw.out⟩
      case pos =>
      have b1 : ((L.length : Int) == (M.length : Int)) = true := beq_iff_eq.2 (by omega)
      have b2 : ((L.length : Int) != (M.length : Int)) = false := by rw [bne, b1]; rfl
      have HLe := Lib.hid hlen
      clear hlen
      go_wp2_with fail
      clear z15 y15 b1 b2
      go_loopw [6] (fun i wr => SlRel L M w1 i wr) (fun i _ => L.length - (intOf i).toNat)
      case atStart => exact ⟨0, Nat.zero_le _, rfl, rfl, HBr.out⟩
      case round =>
        clear HBr HDr HEr HBw
        obtain ⟨k, hk, rfl, ht, hb⟩ := hrel
        have HT := Lib.hid ht
        have HBr := Lib.hid hb
        have HDr := Lib.hid (HD.out.later hb)
        have HEr := Lib.hid (HE.out.later hb)
        have HBw := Lib.hid (HB.out.trans (hb.mono HB.out.size))
        clear ht hb
        have z15 := cell_of_blk HDr.out 15 (v := .slice d.lad d.ln d.lc) rfl
        have y15 := cell_of_blk HEr.out 15 (v := .slice e.lad e.ln e.lc) rfl
        rw [H1.out] at z15
        rw [H2.out] at y15
        by_cases hlt : k < L.length
        case pos =>
          have hlt2 : k < M.length := by have := HLe.out; omega
          obtain ⟨pb, po, ea, s0, s1, s2⟩ := (HL.out.below HBw.out) k L[k] (List.getElem?_eq_getElem hlt)
          obtain ⟨qb, qo, eb, t0, t1, t2⟩ := (HM.out.below HBw.out) k M[k] (List.getElem?_eq_getElem hlt2)
          rw [ea] at z15
          rw [eb] at y15
          have e1 : L.take (k + 1) = L.take k ++ [L[k]] := List.take_succ_eq_append_getElem hlt
          have e2 : M.take (k + 1) = M.take k ++ [M[k]] := List.take_succ_eq_append_getElem hlt2
          have e3 : L = M → L[k] = M[k] := fun h => by subst h; rfl
          generalize L[k] = x at s0 s1 s2 e1 e3
          generalize M[k] = y at t0 t1 t2 e2 e3
          have E1 := Lib.hid e1
          have E2 := Lib.hid e2
          have E3 := Lib.hid e3
          have hk0 : (0 : Int) ≤ (k : Int) := Int.natCast_nonneg _
          have hk1 : (k : Int) < (L.length : Int) := by omega
          have hk2 : (k : Int) < (M.length : Int) := by omega
          have hne := fun W => ne_tgt W x y
          obtain ⟨bq, hbq⟩ : ∃ bq, bq = decide (x = y) := ⟨_, rfl⟩
          rw [← hbq] at hne
          have HBq := Lib.hid hbq
          clear hbq
          have s0r := cell_regrown s0
          have s1r := cell_regrown s1
          have s2r := cell_regrown s2
          have t0r := cell_regrown t0
          have t1r := cell_regrown t1
          have t2r := cell_regrown t2
          have z15r := cell_regrown z15
          have y15r := cell_regrown y15
          clear e1 e2 e3 ea eb
          go_wp2_with fail
          refine wp_region_quiet_below (by kernel_rfl) (by kernel_rfl) ?_
          repeat quiet_step (fail)
          refine wpQuiet_nil ?_
          intro w5 hw5
          obtain ⟨⟨dq, osq⟩, hw''⟩ := hw5
          have hb5 : Below wr.heap.size wr w5 := by rw [hw'']; exact below_regrown wr dq osq
          have H5 := Lib.hid (HBr.out.trans (hb5.mono HBr.out.size))
          have H5w := Lib.hid (HBw.out.trans (hb5.mono HBw.out.size))
          clear hw'' hb5 s0r s1r s2r t0r t1r t2r z15r y15r s0 s1 s2 t0 t1 t2 z15 y15 hne
          cases bq with
          | true =>
            have hxy : x = y := of_decide_eq_true HBq.out.symm
            have hnew : L.take (k + 1) = M.take (k + 1) := by rw [E1.out, E2.out, HT.out, hxy]
            have HNew := Lib.hid hnew
            clear hnew hxy
            go_wp2_with fail
            refine ⟨⟨k + 1, hlt, rfl, HNew.out, H5.out⟩, ?_⟩
            show L.length - ((k : Int) + 1).toNat < L.length - (k : Int).toNat
            omega
          | false =>
            have hxy : ¬ x = y := of_decide_eq_false HBq.out.symm
            have hr : R = false := by rw [HR2.out, decide_eq_false (fun h => hxy (E3.out h))]; rfl
            have HX := Lib.hid hr
            clear hr hxy
            go_wp2_with fail
            go_ret
            rw [HX.out]
            exact ⟨rfl, H5w.out⟩
        case neg =>
          obtain rfl : k = L.length := by omega
          have hLM : L = M := by
            have h := HT.out
            rwa [List.take_length, List.take_of_length_le (by have := HLe.out; omega)] at h
          have hR : R = restE d e sb := by rw [HR2.out, decide_eq_true hLM]; rfl
          have HR3 := Lib.hid hR
          have HC := Lib.hid (HS.out 4 d.s4 e.s4 wr rfl rfl HBw.out)
          clear hLM hR HR2 HT HLe
          have a0 := cell_of_blk HDr.out 0 (v := .int .i64 d.kind) rfl
          have b0 := cell_of_blk HEr.out 0 (v := .int .i64 e.kind) rfl
          have a1 := cell_of_blk HDr.out 1 (v := .int .i64 d.ver) rfl
          have b1 := cell_of_blk HEr.out 1 (v := .int .i64 e.ver) rfl
          have a2 := cell_of_blk HDr.out 2 (v := .int .i64 d.exp) rfl
          have b2 := cell_of_blk HEr.out 2 (v := .int .i64 e.exp) rfl
          have a11 := cell_of_blk HDr.out 11 (v := .slice d.s4.ad d.s4.n d.s4.c) rfl
          have b11 := cell_of_blk HEr.out 11 (v := .slice e.s4.ad e.s4.n e.s4.c) rfl
          have a12 := cell_of_blk HDr.out 12 (v := .int .i64 d.s4.need) rfl
          have b12 := cell_of_blk HEr.out 12 (v := .int .i64 e.s4.need) rfl
          by_cases h_kind : d.kind = e.kind
          · have g_kind := decide_eq_true h_kind
            have z_kind : (d.kind == e.kind) = true := beq_iff_eq.2 h_kind
            have G_kind := Lib.hid g_kind
            clear g_kind h_kind
            by_cases h_ver : d.ver = e.ver
            · have g_ver := decide_eq_true h_ver
              have z_ver : (d.ver == e.ver) = true := beq_iff_eq.2 h_ver
              have G_ver := Lib.hid g_ver
              clear g_ver h_ver
              by_cases h_exp : d.exp = e.exp
              · have g_exp := decide_eq_true h_exp
                have z_exp : (d.exp == e.exp) = true := beq_iff_eq.2 h_exp
                have G_exp := Lib.hid g_exp
                clear g_exp h_exp
                cases hsb : sb 4 with
                | false =>
                  have HSb := Lib.hid hsb
                  rw [hsb] at HC
                  clear hsb
                  have hr : R = false := by rw [HR3.out]; unfold restE; rw [G_kind.out, G_ver.out, G_exp.out, HSb.out]; rfl
                  have HX := Lib.hid hr
                  clear hr HR3
                  go_wp2_with fail
                  refine HC.out.mono ?_
                  rintro en w5 ⟨rfl, hb⟩
                  have HB5 := Lib.hid (HBw.out.trans (hb.mono HBw.out.size))
                  clear hb
                  go_wp2_with fail
                  go_ret
                  rw [HX.out]
                  exact ⟨rfl, HB5.out⟩
                | true =>
                  have HSb := Lib.hid hsb
                  rw [hsb] at HC
                  clear hsb
                  go_wp2_with fail
                  refine HC.out.mono ?_
                  rintro en w5 ⟨rfl, hb⟩
                  have HB5 := Lib.hid (HBw.out.trans (hb.mono HBw.out.size))
                  have HD5 := Lib.hid (HDr.out.later hb)
                  have HE5 := Lib.hid (HEr.out.later hb)
                  clear hb a0 b0 a1 b1 a2 b2 a11 b11 a12 b12 HC
                  have a13 := cell_of_blk HD5.out 13 (v := .string d.log) rfl
                  have b13 := cell_of_blk HE5.out 13 (v := .string e.log) rfl
                  have a14 := cell_of_blk HD5.out 14 (v := .string d.org) rfl
                  have b14 := cell_of_blk HE5.out 14 (v := .string e.org) rfl
                  have a16 := cell_of_blk HD5.out 16 (v := .string d.pO) rfl
                  have b16 := cell_of_blk HE5.out 16 (v := .string e.pO) rfl
                  have a17 := cell_of_blk HD5.out 17 (v := .int .i64 d.pS) rfl
                  have b17 := cell_of_blk HE5.out 17 (v := .int .i64 e.pS) rfl
                  have a18 := cell_of_blk HD5.out 18 (v := .string d.pR) rfl
                  have b18 := cell_of_blk HE5.out 18 (v := .string e.pR) rfl
                  have a19 := cell_of_blk HD5.out 19 (v := .int .i64 d.of) rfl
                  have b19 := cell_of_blk HE5.out 19 (v := .int .i64 e.of) rfl
                  have a20 := cell_of_blk HD5.out 20 (v := .string d.hash) rfl
                  have b20 := cell_of_blk HE5.out 20 (v := .string e.hash) rfl
                  have hpt := fun W => eq_pts W d e
                  by_cases h_log : d.log = e.log
                  · have g_log := decide_eq_true h_log
                    have z_log : (d.log.toList == e.log.toList) = true := by rw [toList_eqbV]; exact g_log
                    have G_log := Lib.hid g_log
                    clear g_log h_log
                    by_cases h_org : d.org = e.org
                    · have g_org := decide_eq_true h_org
                      have z_org : (d.org.toList == e.org.toList) = true := by rw [toList_eqbV]; exact g_org
                      have G_org := Lib.hid g_org
                      clear g_org h_org
                      cases hp : ptEq d e with
                      | false =>
                        rw [hp] at hpt
                        have GP := Lib.hid hp
                        clear hp
                        have hr : R = false := by rw [HR3.out]; unfold restE; rw [G_kind.out, G_ver.out, G_exp.out, HSb.out, G_log.out, G_org.out, GP.out]; rfl
                        have HX := Lib.hid hr
                        clear hr HR3
                        go_wp2_with fail
                        go_ret
                        rw [HX.out]
                        exact ⟨rfl, HB5.out⟩
                      | true =>
                        rw [hp] at hpt
                        have GP := Lib.hid hp
                        clear hp
                        by_cases h_of : d.of = e.of
                        · have g_of := decide_eq_true h_of
                          have z_of : (d.of == e.of) = true := beq_iff_eq.2 h_of
                          have G_of := Lib.hid g_of
                          clear g_of h_of
                          by_cases h_hash : d.hash = e.hash
                          · have g_hash := decide_eq_true h_hash
                            have z_hash : (d.hash.toList == e.hash.toList) = true := by rw [toList_eqbV]; exact g_hash
                            have G_hash := Lib.hid g_hash
                            clear g_hash h_hash
                            have hr : R = true := by rw [HR3.out]; unfold restE; rw [G_kind.out, G_ver.out, G_exp.out, HSb.out, G_log.out, G_org.out, GP.out, G_of.out, G_hash.out]; rfl
                            have HX := Lib.hid hr
                            clear hr HR3
                            go_wp2_with fail
                            go_ret
                            rw [HX.out]
                            exact ⟨rfl, HB5.out⟩
                          · have g_hash := decide_eq_false h_hash
                            have z_hash : (d.hash.toList == e.hash.toList) = false := by rw [toList_eqbV]; exact g_hash
                            have G_hash := Lib.hid g_hash
                            clear g_hash h_hash
                            have hr : R = false := by rw [HR3.out]; unfold restE; rw [G_kind.out, G_ver.out, G_exp.out, HSb.out, G_log.out, G_org.out, GP.out, G_of.out, G_hash.out]; rfl
                            have HX := Lib.hid hr
                            clear hr HR3
                            go_wp2_with fail
                            go_ret
                            rw [HX.out]
                            exact ⟨rfl, HB5.out⟩
                        · have g_of := decide_eq_false h_of
                          have z_of : (d.of == e.of) = false := beq_eq_false_iff_ne.2 h_of
                          have G_of := Lib.hid g_of
                          clear g_of h_of
                          have hr : R = false := by rw [HR3.out]; unfold restE; rw [G_kind.out, G_ver.out, G_exp.out, HSb.out, G_log.out, G_org.out, GP.out, G_of.out]; rfl
                          have HX := Lib.hid hr
                          clear hr HR3
                          go_wp2_with fail
                          go_ret
                          rw [HX.out]
                          exact ⟨rfl, HB5.out⟩
                    · have g_org := decide_eq_false h_org
                      have z_org : (d.org.toList == e.org.toList) = false := by rw [toList_eqbV]; exact g_org
                      have G_org := Lib.hid g_org
                      clear g_org h_org
                      have hr : R = false := by rw [HR3.out]; unfold restE; rw [G_kind.out, G_ver.out, G_exp.out, HSb.out, G_log.out, G_org.out]; rfl
                      have HX := Lib.hid hr
                      clear hr HR3
                      go_wp2_with fail
                      go_ret
                      rw [HX.out]
                      exact ⟨rfl, HB5.out⟩
                  · have g_log := decide_eq_false h_log
                    have z_log : (d.log.toList == e.log.toList) = false := by rw [toList_eqbV]; exact g_log
                    have G_log := Lib.hid g_log
                    clear g_log h_log
                    have hr : R = false := by rw [HR3.out]; unfold restE; rw [G_kind.out, G_ver.out, G_exp.out, HSb.out, G_log.out]; rfl
                    have HX := Lib.hid hr
                    clear hr HR3
                    go_wp2_with fail
                    go_ret
                    rw [HX.out]
                    exact ⟨rfl, HB5.out⟩
              · have g_exp := decide_eq_false h_exp
                have z_exp : (d.exp == e.exp) = false := beq_eq_false_iff_ne.2 h_exp
                have G_exp := Lib.hid g_exp
                clear g_exp h_exp
                have hr : R = false := by rw [HR3.out]; unfold restE; rw [G_kind.out, G_ver.out, G_exp.out]; rfl
                have HX := Lib.hid hr
                clear hr HR3
                go_wp2_with fail
                go_ret
                rw [HX.out]
                exact ⟨rfl, HBw.out⟩
            · have g_ver := decide_eq_false h_ver
              have z_ver : (d.ver == e.ver) = false := beq_eq_false_iff_ne.2 h_ver
              have G_ver := Lib.hid g_ver
              clear g_ver h_ver
              have hr : R = false := by rw [HR3.out]; unfold restE; rw [G_kind.out, G_ver.out]; rfl
              have HX := Lib.hid hr
              clear hr HR3
              go_wp2_with fail
              go_ret
              rw [HX.out]
              exact ⟨rfl, HBw.out⟩
          · have g_kind := decide_eq_false h_kind
            have z_kind : (d.kind == e.kind) = false := beq_eq_false_iff_ne.2 h_kind
            have G_kind := Lib.hid g_kind
            clear g_kind h_kind
            have hr : R = false := by rw [HR3.out]; unfold restE; rw [G_kind.out]; rfl
            have HX := Lib.hid hr
            clear hr HR3
            go_wp2_with fail
            go_ret
            rw [HX.out]
            exact ⟨rfl, HBw.out⟩
end Go.Proofs.YtmejjphliaiamaaGreatDoor
