import Derived.Test.YtmejjphliaiamaaGreatDoorSg
set_option linter.unusedVariables false
set_option linter.unusedSimpArgs false
namespace Go.Proofs.YtmejjphliaiamaaGreatDoor
open Go Go.RowKit Go.Lib

/-- the place of the first signature that meets p, or -1. -/
def sigIdx (p : SigT → Bool) : Nat → List SigT → Int
  | _, [] => -1
  | k, x :: r => if p x = true then (k : Int) else sigIdx p (k + 1) r
theorem sigIdx_any (p : SigT → Bool) : ∀ (l : List SigT) (k : Nat), decide (0 ≤ sigIdx p k l) = l.any p
  | [], k => rfl
  | x :: r, k => by
    unfold sigIdx
    cases hp : p x with
    | true => simp [hp]
    | false => simp only [hp, List.any_cons, Bool.false_or]; exact sigIdx_any p r (k + 1)
def SigPred (g : Nat) (lb : Array Value) (p : SigT → Bool) (w : World) : Prop :=
  ∀ (W : World) (x : SigT), Below w.heap.size w W → Calls Tryz.prog g (#[sigV x] ++ lb) W fun e w' => e = .returned (.bool (p x)) ∧ Below W.heap.size W w'
def IdxRel (p : SigT → Bool) (L : List SigT) (w : World) (i : Value) (wr : World) : Prop := ∃ k : Nat, k ≤ L.length ∧ i = .int .i64 k ∧ sigIdx p 0 L = sigIdx p k (L.drop k) ∧ Below w.heap.size w wr

set_option maxRecDepth 100000 in
set_option maxHeartbeats 1000000 in
theorem sigidx_any (g : Nat) (lb : Array Value) (eg : ∀ args w, (callFunc g args).run Tryz.prog w = .ok (.enter g args) w) (p : SigT → Bool) (ad : Option Addr) (L : List SigT) (c : Nat) (w : World) (hL : SigsM w ad L) (hn : L.length ≤ 9223372036854775807) (hp : SigPred g lb p w) :
    Calls Tryz.prog 114 #[.slice ad L.length c, .func (.func g) #[] lb] w fun e w' => e = .returned (.int .i64 (sigIdx p 0 L)) ∧ Below w.heap.size w w' := by
  have HL := Lib.hid hL
  have HP := Lib.hid hp
  clear hL hp
  go_enter Tryz.func114, Tryz.ntmps114
  go_wp2_with fail
  go_loopw [8] (fun i wr => IdxRel p L w i wr) (fun i _ => L.length - (intOf i).toNat)
  case atStart => exact ⟨0, Nat.zero_le _, rfl, rfl, Below.refl _ _⟩
  case round =>
    obtain ⟨k, hk, rfl, hg, hB⟩ := hrel
    have HG := Lib.hid hg
    have HB := Lib.hid hB
    clear hg hB
    by_cases hlt : k < L.length
    · obtain ⟨pb, po, rfl, c0, c1⟩ := (HL.out.below HB.out) k L[k] (List.getElem?_eq_getElem hlt)
      have hdrop : L.drop k = L[k] :: L.drop (k + 1) := List.drop_eq_getElem_cons hlt
      generalize hF : L[k] = f at c0 c1 hdrop
      have hgd : sigIdx p 0 L = if p f = true then (k : Int) else sigIdx p (k + 1) (L.drop (k + 1)) := by rw [HG.out, hdrop]; rfl
      have HD := Lib.hid hgd
      have hk0 : (0 : Int) ≤ (k : Int) := Int.natCast_nonneg _
      have hk1 : (k : Int) < (L.length : Int) := by omega
      have hpf := HP.out wr f HB.out
      unfold sigV at hpf
      have HPF := Lib.hid hpf
      clear hdrop hgd hF hpf
      go_wp2_with fail
      refine HPF.out.mono ?_
      rintro e w1 ⟨rfl, hb⟩
      have HB1 := Lib.hid (HB.out.trans (hb.mono HB.out.size))
      clear hb
      cases hpb : p f with
      | true =>
        have HR := Lib.hid (HD.out.trans (if_pos hpb))
        go_wp2_with fail
        go_ret
        rw [HR.out]
        exact ⟨rfl, HB1.out⟩
      | false =>
        have HR := Lib.hid (HD.out.trans (if_neg (by rw [hpb]; decide)))
        go_wp2_with fail
        refine ⟨⟨k + 1, hlt, rfl, HR.out, HB1.out⟩, ?_⟩
        show L.length - ((k : Int) + 1).toNat < L.length - (k : Int).toNat
        omega
    · have hkn : k = L.length := by omega
      subst hkn
      have hres : sigIdx p 0 L = -1 := by rw [HG.out, List.drop_length]; rfl
      have HR := Lib.hid hres
      clear hres
      go_wp2_with fail
      go_ret
      rw [HR.out]
      exact ⟨rfl, HB.out⟩

set_option maxRecDepth 100000 in
theorem sigcon_any (g : Nat) (lb : Array Value) (eg : ∀ args w, (callFunc g args).run Tryz.prog w = .ok (.enter g args) w) (p : SigT → Bool) (ad : Option Addr) (L : List SigT) (c : Nat) (w : World) (hL : SigsM w ad L) (hn : L.length ≤ 9223372036854775807) (hp : SigPred g lb p w) :
    Calls Tryz.prog 47 #[.slice ad L.length c, .func (.func g) #[] lb] w fun e w' => e = .returned (.bool (L.any p)) ∧ Below w.heap.size w w' := by
  have HC := Lib.hid (sigidx_any g lb eg p ad L c w hL hn hp)
  rw [← sigIdx_any p L 0]
  generalize sigIdx p 0 L = i at HC
  go_enter Tryz.func47, Tryz.ntmps47
  go_wp2_with fail
  refine HC.out.mono ?_
  rintro e w1 ⟨rfl, hb⟩
  have HB := Lib.hid hb
  clear hb
  go_wp2_with fail
  go_ret
  exact ⟨rfl, HB.out⟩
end Go.Proofs.YtmejjphliaiamaaGreatDoor
