import Derived.Test.YtmejjphliaiamaaGreatDoorMeH
import Derived.Deep.QuietTactic
import Derived.BigQuiet
import Derived.StillTail
import Derived.Lib.QuietBelow
set_option linter.unusedVariables false
set_option linter.unusedSimpArgs false
namespace Go.Proofs.YtmejjphliaiamaaGreatDoor
open Go Go.RowKit Go.Lib Go.Sort

/-! ### the same texts, sets, documents -/
def TxM (w : World) (ad : Option Addr) (L : List ByteArray) : Prop := ∀ i t, L[i]? = some t → ∃ pb po, ad = some ⟨pb, po, none⟩ ∧ w.cell? ⟨pb, po + i, none⟩ = some (.string t)
theorem TxM.below {w w' : World} {ad : Option Addr} {L : List ByteArray} (h : TxM w ad L) (k : Below w.heap.size w w') : TxM w' ad L := by
  intro i f hf
  obtain ⟨pb, po, e, h1⟩ := h i f hf
  exact ⟨pb, po, e, (k.cell (cell_lt h1)).trans h1⟩
def StRel (L M : List ByteArray) (w : World) (i : Value) (wr : World) : Prop := ∃ k : Nat, k ≤ L.length ∧ i = .int .i64 k ∧ L.take k = M.take k ∧ Below w.heap.size w wr
set_option maxRecDepth 100000 in
set_option maxHeartbeats 1000000 in
theorem sametx_any (ad bd : Option Addr) (L M : List ByteArray) (c d : Nat) (w : World) (hn : L.length ≤ 100000000) (hm : M.length ≤ 100000000) (hL : TxM w ad L) (hM : TxM w bd M) :
    Calls Tryz.prog 113 #[.slice ad L.length c, .slice bd M.length d] w fun e w' => e = .returned (.bool (decide (L = M))) ∧ Below w.heap.size w w' := by
  have HL := Lib.hid hL
  have HM := Lib.hid hM
  clear hL hM
  by_cases hlen : L.length = M.length
  · have b1 : ((L.length : Int) == (M.length : Int)) = true := beq_iff_eq.2 (by omega)
    have b2 : ((L.length : Int) != (M.length : Int)) = false := by rw [bne, b1]; rfl
    have hle : (M.length : Int) = (L.length : Int) := by omega
    have HLe := Lib.hid hlen
    obtain ⟨res, hres⟩ : ∃ res, res = decide (L = M) := ⟨_, rfl⟩
    rw [← hres]
    have HRs := Lib.hid hres
    clear hlen hle hres
    go_enter Tryz.func113, Tryz.ntmps113
    go_wp2_with fail
    go_loopw [5] (fun i wr => StRel L M w i wr) (fun i _ => L.length - (intOf i).toNat)
    case atStart => exact ⟨0, Nat.zero_le _, rfl, rfl, Below.refl _ _⟩
    case round =>
      obtain ⟨k, hk, rfl, ht, hB⟩ := hrel
      have HB := Lib.hid hB
      have HT := Lib.hid ht
      clear hB ht
      by_cases hlt : k < L.length
      · have hlt2 : k < M.length := by have := HLe.out; omega
        obtain ⟨pb, po, rfl, s0⟩ := (HL.out.below HB.out) k L[k] (List.getElem?_eq_getElem hlt)
        obtain ⟨qb, qo, rfl, t0⟩ := (HM.out.below HB.out) k M[k] (List.getElem?_eq_getElem hlt2)
        have e1 : L.take (k + 1) = L.take k ++ [L[k]] := List.take_succ_eq_append_getElem hlt
        have e2 : M.take (k + 1) = M.take k ++ [M[k]] := List.take_succ_eq_append_getElem hlt2
        have e3 : L = M → L[k] = M[k] := fun h => by subst h; rfl
        generalize L[k] = x at s0 e1 e3
        generalize M[k] = y at t0 e2 e3
        have E1 := Lib.hid e1
        have E2 := Lib.hid e2
        have E3 := Lib.hid e3
        have hk0 : (0 : Int) ≤ (k : Int) := Int.natCast_nonneg _
        have hk1 : (k : Int) < (L.length : Int) := by omega
        have hk2 : (k : Int) < (M.length : Int) := by omega
        have hne := toList_eqbV x y
        obtain ⟨bq, hbq⟩ : ∃ bq, bq = decide (x = y) := ⟨_, rfl⟩
        rw [← hbq] at hne
        have HBq := Lib.hid hbq
        clear hbq
        have s0r := cell_regrown s0
        have t0r := cell_regrown t0
        clear e1 e2 e3
        go_wp2_with fail
        refine wp_region_quiet_below (by kernel_rfl) (by kernel_rfl) ?_
        repeat quiet_step (fail)
        refine wpQuiet_nil ?_
        intro w5 hw5
        obtain ⟨⟨dq, osq⟩, hw''⟩ := hw5
        have hb5 : Below wr.heap.size wr w5 := by rw [hw'']; exact below_regrown wr dq osq
        have H5 := Lib.hid (HB.out.trans (hb5.mono HB.out.size))
        clear hw'' hb5 s0r t0r s0 t0
        cases bq with
        | true =>
          have hxy : x = y := of_decide_eq_true HBq.out.symm
          have hnew : L.take (k + 1) = M.take (k + 1) := by rw [E1.out, E2.out, HT.out, hxy]
          have HNew := Lib.hid hnew
          clear hnew hxy
          go_wp2_with fail
          refine ⟨⟨k + 1, hlt, rfl, HNew.out, H5.out⟩, ?_⟩
          show L.length - ((k : Int) + 1).toNat < L.length - (k : Int).toNat
          omega
        | false =>
          have hxy : ¬ x = y := of_decide_eq_false HBq.out.symm
          have hr : res = false := by rw [HRs.out]; exact decide_eq_false (fun h => hxy (E3.out h))
          have HR := Lib.hid hr
          clear hr hxy
          go_wp2_with fail
          go_ret
          rw [HR.out]
          exact ⟨rfl, H5.out⟩
      · obtain rfl : k = L.length := by omega
        have hr : res = true := by
          rw [HRs.out]
          refine decide_eq_true ?_
          have h := HT.out
          rwa [List.take_length, List.take_of_length_le (by have := HLe.out; omega)] at h
        have HR := Lib.hid hr
        clear hr
        go_wp2_with fail
        go_ret
        rw [HR.out]
        exact ⟨rfl, HB.out⟩
  · have b1 : ((L.length : Int) == (M.length : Int)) = false := beq_eq_false_iff_ne.2 (by omega)
    have b2 : ((L.length : Int) != (M.length : Int)) = true := by rw [bne, b1]; rfl
    rw [decide_eq_false (show ¬ L = M from fun h => hlen (by rw [h]))]
    have hle : ¬ (L.length : Int) = (M.length : Int) := by omega
    go_enter Tryz.func113, Tryz.ntmps113
    go_wp2_with fail
    go_ret
    exact ⟨rfl, Below.refl _ _⟩

abbrev SetT := List ByteArray × Int
def SetM (w : World) (s : SV) (S : SetT) : Prop := s.n = S.1.length ∧ s.need = S.2 ∧ TxM w s.ad S.1
theorem SetM.below {w w' : World} {s : SV} {S : SetT} (h : SetM w s S) (k : Below w.heap.size w w') : SetM w' s S := ⟨h.1, h.2.1, h.2.2.below k⟩
set_option maxRecDepth 100000 in
theorem sameset_any (s t : SV) (S T : SetT) (w : World) (hn : S.1.length ≤ 100000000) (hm : T.1.length ≤ 100000000) (hS : SetM w s S) (hT : SetM w t T) :
    Calls Tryz.prog 46 #[.agg #[.slice s.ad s.n s.c, .int .i64 s.need], .agg #[.slice t.ad t.n t.c, .int .i64 t.need]] w fun e w' => e = .returned (.bool (decide (S.2 = T.2) && decide (S.1 = T.1))) ∧ Below w.heap.size w w' := by
  obtain ⟨s1, s2, s3⟩ := hS
  obtain ⟨t1, t2, t3⟩ := hT
  rw [s1, s2, t1, t2]
  have hK : Below w.heap.size w ((w.alloc (.cells #[.slice s.ad S.1.length s.c, .int .i64 S.2] 24)).alloc (.cells #[.slice t.ad T.1.length t.c, .int .i64 T.2] 24)) := ((Below.refl _ w).alloc (Nat.le_refl _) _).alloc (by rw [size_alloc]; omega) _
  have HK := Lib.hid hK
  have HC := Lib.hid (sametx_any s.ad t.ad S.1 T.1 s.c t.c _ hn hm (s3.below hK) (t3.below hK))
  generalize decide (S.1 = T.1) = q at HC ⊢
  clear hK s1 s2 s3 t1 t2 t3
  by_cases h : S.2 = T.2
  · have b1 : (S.2 == T.2) = true := beq_iff_eq.2 h
    rw [decide_eq_true h]
    clear h
    go_enter Tryz.func46, Tryz.ntmps46
    go_wp2_with fail
    refine HC.out.mono ?_
    rintro e w5 ⟨rfl, hb⟩
    have HB := Lib.hid (HK.out.trans (hb.mono HK.out.size))
    clear hb
    go_wp2_with fail
    go_ret
    exact ⟨by cases q <;> rfl, HB.out⟩
  · have b1 : (S.2 == T.2) = false := beq_eq_false_iff_ne.2 h
    rw [decide_eq_false h]
    clear h HC
    go_enter Tryz.func46, Tryz.ntmps46
    go_wp2_with fail
    go_ret
    exact ⟨rfl, HK.out⟩
end Go.Proofs.YtmejjphliaiamaaGreatDoor

