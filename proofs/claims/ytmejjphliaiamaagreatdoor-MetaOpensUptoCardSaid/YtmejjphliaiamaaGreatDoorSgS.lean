import Derived.Test.YtmejjphliaiamaaGreatDoorSg
import Derived.Test.YtmejjphliaiamaaGreatDoorBy
import Derived.Deep.QuietTactic
import Derived.BigQuiet
import Derived.StillTail
import Derived.Lib.QuietBelow
set_option linter.unusedVariables false
set_option linter.unusedSimpArgs false
namespace Go.Proofs.YtmejjphliaiamaaGreatDoor
open Go Go.RowKit Go.Lib Go.Sort

/-- the place of the first signature that meets p, or -1. -/
def sigIdx (p : SigT → Bool) : Nat → List SigT → Int
  | _, [] => -1
  | k, x :: r => if p x = true then (k : Int) else sigIdx p (k + 1) r
theorem sigIdx_any (p : SigT → Bool) : ∀ (l : List SigT) (k : Nat), decide (0 ≤ sigIdx p k l) = l.any p
  | [], k => rfl
  | x :: r, k => by
    unfold sigIdx
    cases hp : p x with
    | true => simp [hp]
    | false => simp only [hp, List.any_cons, Bool.false_or]; exact sigIdx_any p r (k + 1)
def SigPred (g : Nat) (lb : Array Value) (p : SigT → Bool) (w : World) : Prop :=
  ∀ (W : World) (x : SigT), Below w.heap.size w W → Calls Tryz.prog g (#[sigV x] ++ lb) W fun e w' => e = .returned (.bool (p x)) ∧ Below W.heap.size W w'
def IdxRel (p : SigT → Bool) (L : List SigT) (w : World) (i : Value) (wr : World) : Prop := ∃ k : Nat, k ≤ L.length ∧ i = .int .i64 k ∧ sigIdx p 0 L = sigIdx p k (L.drop k) ∧ Below w.heap.size w wr

set_option maxRecDepth 100000 in
set_option maxHeartbeats 1000000 in
theorem sigidx_any (g : Nat) (lb : Array Value) (eg : ∀ args w, (callFunc g args).run Tryz.prog w = .ok (.enter g args) w) (p : SigT → Bool) (ad : Option Addr) (L : List SigT) (c : Nat) (w : World) (hL : SigsM w ad L) (hn : L.length ≤ 9223372036854775807) (hp : SigPred g lb p w) :
    Calls Tryz.prog 114 #[.slice ad L.length c, .func (.func g) #[] lb] w fun e w' => e = .returned (.int .i64 (sigIdx p 0 L)) ∧ Below w.heap.size w w' := by
  have HL := Lib.hid hL
  have HP := Lib.hid hp
  clear hL hp
  go_enter Tryz.func114, Tryz.ntmps114
  go_wp2_with fail
  go_loopw [8] (fun i wr => IdxRel p L w i wr) (fun i _ => L.length - (intOf i).toNat)
  case atStart => exact ⟨0, Nat.zero_le _, rfl, rfl, Below.refl _ _⟩
  case round =>
    obtain ⟨k, hk, rfl, hg, hB⟩ := hrel
    have HG := Lib.hid hg
    have HB := Lib.hid hB
    clear hg hB
    by_cases hlt : k < L.length
    · obtain ⟨pb, po, rfl, c0, c1⟩ := (HL.out.below HB.out) k L[k] (List.getElem?_eq_getElem hlt)
      have hdrop : L.drop k = L[k] :: L.drop (k + 1) := List.drop_eq_getElem_cons hlt
      generalize hF : L[k] = f at c0 c1 hdrop
      have hgd : sigIdx p 0 L = if p f = true then (k : Int) else sigIdx p (k + 1) (L.drop (k + 1)) := by rw [HG.out, hdrop]; rfl
      have HD := Lib.hid hgd
      have hk0 : (0 : Int) ≤ (k : Int) := Int.natCast_nonneg _
      have hk1 : (k : Int) < (L.length : Int) := by omega
      have hpf := HP.out wr f HB.out
      unfold sigV at hpf
      have HPF := Lib.hid hpf
      clear hdrop hgd hF hpf
      go_wp2_with fail
      refine HPF.out.mono ?_
      rintro e w1 ⟨rfl, hb⟩
      have HB1 := Lib.hid (HB.out.trans (hb.mono HB.out.size))
      clear hb
      cases hpb : p f with
      | true =>
        have HR := Lib.hid (HD.out.trans (if_pos hpb))
        go_wp2_with fail
        go_ret
        rw [HR.out]
        exact ⟨rfl, HB1.out⟩
      | false =>
        have HR := Lib.hid (HD.out.trans (if_neg (by rw [hpb]; decide)))
        go_wp2_with fail
        refine ⟨⟨k + 1, hlt, rfl, HR.out, HB1.out⟩, ?_⟩
        show L.length - ((k : Int) + 1).toNat < L.length - (k : Int).toNat
        omega
    · have hkn : k = L.length := by omega
      subst hkn
      have hres : sigIdx p 0 L = -1 := by rw [HG.out, List.drop_length]; rfl
      have HR := Lib.hid hres
      clear hres
      go_wp2_with fail
      go_ret
      rw [HR.out]
      exact ⟨rfl, HB.out⟩

set_option maxRecDepth 100000 in
theorem sigcon_any (g : Nat) (lb : Array Value) (eg : ∀ args w, (callFunc g args).run Tryz.prog w = .ok (.enter g args) w) (p : SigT → Bool) (ad : Option Addr) (L : List SigT) (c : Nat) (w : World) (hL : SigsM w ad L) (hn : L.length ≤ 9223372036854775807) (hp : SigPred g lb p w) :
    Calls Tryz.prog 47 #[.slice ad L.length c, .func (.func g) #[] lb] w fun e w' => e = .returned (.bool (L.any p)) ∧ Below w.heap.size w w' := by
  have HC := Lib.hid (sigidx_any g lb eg p ad L c w hL hn hp)
  rw [← sigIdx_any p L 0]
  generalize sigIdx p 0 L = i at HC
  go_enter Tryz.func47, Tryz.ntmps47
  go_wp2_with fail
  refine HC.out.mono ?_
  rintro e w1 ⟨rfl, hb⟩
  have HB := Lib.hid hb
  clear hb
  go_wp2_with fail
  go_ret
  exact ⟨rfl, HB.out⟩

/-! ### the same signatures, the same notes -/
theorem ne_sig (w : World) (x y : SigT) : (binOp .neq 54 (.agg #[.string x.1, .string x.2]) (.agg #[.string y.1, .string y.2])).run Tryz.prog w = .ok (.bool (!decide (x = y))) w := by
  have u5 := Tryz.underlying9
  have hS : Tryz.prog.underlying 54 = some (.struct (Tryz.prog.fieldsOf 54)) := by kernel_rfl
  have hp : Tryz.prog.stoodInHeld 54 = false := by kernel_rfl
  obtain ⟨a, b⟩ := x
  obtain ⟨c, d⟩ := y
  dsimp only
  rw [run_neq_struct, show (10000 : Nat) = 9999 + 1 from rfl, run_equalIn_agg w 9999 54 _ _ hS hp]
  simp only [Program.fieldsOf, Tryz.underlying54]
  by_cases h1 : a = c
  · subst h1
    by_cases h2 : b = d
    · subst h2
      rw [decide_eq_true rfl]
      go_simp
    · have h3 : (b.toList == d.toList) = false := by rw [toList_eqbV]; exact decide_eq_false h2
      rw [decide_eq_false (fun h => h2 (congrArg Prod.snd h))]
      go_simp
  · have h3 : (a.toList == c.toList) = false := by rw [toList_eqbV]; exact decide_eq_false h1
    rw [decide_eq_false (fun h => h1 (congrArg Prod.fst h))]
    go_simp
def SsRel (L M : List SigT) (w : World) (i : Value) (wr : World) : Prop := ∃ k : Nat, k ≤ L.length ∧ i = .int .i64 k ∧ L.take k = M.take k ∧ Below w.heap.size w wr

set_option maxRecDepth 100000 in
set_option maxHeartbeats 1000000 in
theorem samesigs_any (ad bd : Option Addr) (L M : List SigT) (c d : Nat) (w : World) (hn : L.length ≤ 100000000) (hm : M.length ≤ 100000000) (hL : SigsM w ad L) (hM : SigsM w bd M) :
    Calls Tryz.prog 17 #[.slice ad L.length c, .slice bd M.length d] w fun e w' => e = .returned (.bool (decide (L = M))) ∧ Below w.heap.size w w' := by
  have HL := Lib.hid hL
  have HM := Lib.hid hM
  clear hL hM
  by_cases hlen : L.length = M.length
  · have b1 : ((L.length : Int) == (M.length : Int)) = true := beq_iff_eq.2 (by omega)
    have b2 : ((L.length : Int) != (M.length : Int)) = false := by rw [bne, b1]; rfl
    have hle : (M.length : Int) = (L.length : Int) := by omega
    have HLe := Lib.hid hlen
    obtain ⟨res, hres⟩ : ∃ res, res = decide (L = M) := ⟨_, rfl⟩
    rw [← hres]
    have HRs := Lib.hid hres
    clear hlen hle hres
    go_enter Tryz.func17, Tryz.ntmps17
    go_wp2_with fail
    go_loopw [5] (fun i wr => SsRel L M w i wr) (fun i _ => L.length - (intOf i).toNat)
    case atStart => exact ⟨0, Nat.zero_le _, rfl, rfl, Below.refl _ _⟩
    case round =>
      obtain ⟨k, hk, rfl, ht, hB⟩ := hrel
      have HB := Lib.hid hB
      have HT := Lib.hid ht
      clear hB ht
      by_cases hlt : k < L.length
      · have hlt2 : k < M.length := by have := HLe.out; omega
        obtain ⟨pb, po, rfl, s0, s1⟩ := (HL.out.below HB.out) k L[k] (List.getElem?_eq_getElem hlt)
        obtain ⟨qb, qo, rfl, t0, t1⟩ := (HM.out.below HB.out) k M[k] (List.getElem?_eq_getElem hlt2)
        have e1 : L.take (k + 1) = L.take k ++ [L[k]] := List.take_succ_eq_append_getElem hlt
        have e2 : M.take (k + 1) = M.take k ++ [M[k]] := List.take_succ_eq_append_getElem hlt2
        have e3 : L = M → L[k] = M[k] := fun h => by subst h; rfl
        generalize L[k] = x at s0 s1 e1 e3
        generalize M[k] = y at t0 t1 e2 e3
        have E1 := Lib.hid e1
        have E2 := Lib.hid e2
        have E3 := Lib.hid e3
        have hk0 : (0 : Int) ≤ (k : Int) := Int.natCast_nonneg _
        have hk1 : (k : Int) < (L.length : Int) := by omega
        have hk2 : (k : Int) < (M.length : Int) := by omega
        have hne := fun W => ne_sig W x y
        obtain ⟨bq, hbq⟩ : ∃ bq, bq = decide (x = y) := ⟨_, rfl⟩
        rw [← hbq] at hne
        have HBq := Lib.hid hbq
        clear hbq
        have s0r := cell_regrown s0
        have s1r := cell_regrown s1
        have t0r := cell_regrown t0
        have t1r := cell_regrown t1
        clear e1 e2 e3
        go_wp2_with fail
        refine wp_region_quiet_below (by kernel_rfl) (by kernel_rfl) ?_
        repeat quiet_step (fail)
        refine wpQuiet_nil ?_
        intro w5 hw5
        obtain ⟨⟨dq, osq⟩, hw''⟩ := hw5
        have hb5 : Below wr.heap.size wr w5 := by rw [hw'']; exact below_regrown wr dq osq
        have H5 := Lib.hid (HB.out.trans (hb5.mono HB.out.size))
        clear hw'' hb5 s0r s1r t0r t1r s0 s1 t0 t1 hne
        cases bq with
        | true =>
          have hxy : x = y := of_decide_eq_true HBq.out.symm
          have hnew : L.take (k + 1) = M.take (k + 1) := by rw [E1.out, E2.out, HT.out, hxy]
          have HNew := Lib.hid hnew
          clear hnew hxy
          go_wp2_with fail
          refine ⟨⟨k + 1, hlt, rfl, HNew.out, H5.out⟩, ?_⟩
          show L.length - ((k : Int) + 1).toNat < L.length - (k : Int).toNat
          omega
        | false =>
          have hxy : ¬ x = y := of_decide_eq_false HBq.out.symm
          have hr : res = false := by rw [HRs.out]; exact decide_eq_false (fun h => hxy (E3.out h))
          have HR := Lib.hid hr
          clear hr hxy
          go_wp2_with fail
          go_ret
          rw [HR.out]
          exact ⟨rfl, H5.out⟩
      · obtain rfl : k = L.length := by omega
        have hr : res = true := by
          rw [HRs.out]
          refine decide_eq_true ?_
          have h := HT.out
          rwa [List.take_length, List.take_of_length_le (by have := HLe.out; omega)] at h
        have HR := Lib.hid hr
        clear hr
        go_wp2_with fail
        go_ret
        rw [HR.out]
        exact ⟨rfl, HB.out⟩
  · have b1 : ((L.length : Int) == (M.length : Int)) = false := beq_eq_false_iff_ne.2 (by omega)
    have b2 : ((L.length : Int) != (M.length : Int)) = true := by rw [bne, b1]; rfl
    rw [decide_eq_false (show ¬ L = M from fun h => hlen (by rw [h]))]
    have hle : ¬ (L.length : Int) = (M.length : Int) := by omega
    go_enter Tryz.func17, Tryz.ntmps17
    go_wp2_with fail
    go_ret
    exact ⟨rfl, Below.refl _ _⟩
end Go.Proofs.YtmejjphliaiamaaGreatDoor
