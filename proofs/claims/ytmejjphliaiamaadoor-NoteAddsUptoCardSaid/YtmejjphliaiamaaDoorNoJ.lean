import Derived.Test.YtmejjphliaiamaaDoorNoH
set_option linter.unusedVariables false
set_option linter.unusedSimpArgs false
namespace Go.Proofs.YtmejjphliaiamaaDoor
open Go Go.RowKit Go.Lib

/-! ### signatures in memory -/
abbrev SigT := ByteArray × ByteArray
def sigV (x : SigT) : Value := .agg #[.string x.1, .string x.2]
def SigsM (w : World) (ad : Option Addr) (L : List SigT) : Prop :=
  ∀ i f, L[i]? = some f → ∃ pb po, ad = some ⟨pb, po, none⟩ ∧ w.cell? ⟨pb, po + i * 2, none⟩ = some (.string f.1) ∧ w.cell? ⟨pb, po + i * 2 + 1, none⟩ = some (.string f.2)
theorem SigsM.below {w w' : World} {ad : Option Addr} {L : List SigT} (h : SigsM w ad L) (k : Below w.heap.size w w') : SigsM w' ad L := by
  intro i f hf
  obtain ⟨pb, po, e, h1, h2⟩ := h i f hf
  exact ⟨pb, po, e, (k.cell (cell_lt h1)).trans h1, (k.cell (cell_lt h2)).trans h2⟩
/-- the place of the first signature that meets p, or -1. -/
def sigIdx (p : SigT → Bool) : Nat → List SigT → Int
  | _, [] => -1
  | k, x :: r => if p x = true then (k : Int) else sigIdx p (k + 1) r
theorem sigIdx_any (p : SigT → Bool) : ∀ (l : List SigT) (k : Nat), decide (0 ≤ sigIdx p k l) = l.any p
  | [], k => rfl
  | x :: r, k => by
    unfold sigIdx
    cases hp : p x with
    | true => simp [hp]
    | false => simp only [hp, List.any_cons, Bool.false_or]; exact sigIdx_any p r (k + 1)
def SigPred (g : Nat) (lb : Array Value) (p : SigT → Bool) (w : World) : Prop :=
  ∀ (W : World) (x : SigT), Below w.heap.size w W → Calls Tryd.prog g (#[sigV x] ++ lb) W fun e w' => e = .returned (.bool (p x)) ∧ Below W.heap.size W w'
def IdxRel (p : SigT → Bool) (L : List SigT) (w : World) (i : Value) (wr : World) : Prop := ∃ k : Nat, k ≤ L.length ∧ i = .int .i64 k ∧ sigIdx p 0 L = sigIdx p k (L.drop k) ∧ Below w.heap.size w wr

set_option maxRecDepth 100000 in
set_option maxHeartbeats 1000000 in
theorem sigidx_any (g : Nat) (lb : Array Value) (eg : ∀ args w, (callFunc g args).run Tryd.prog w = .ok (.enter g args) w) (p : SigT → Bool) (ad : Option Addr) (L : List SigT) (c : Nat) (w : World) (hL : SigsM w ad L) (hn : L.length ≤ 9223372036854775807) (hp : SigPred g lb p w) :
    Calls Tryd.prog 40 #[.slice ad L.length c, .func (.func g) #[] lb] w fun e w' => e = .returned (.int .i64 (sigIdx p 0 L)) ∧ Below w.heap.size w w' := by
  have HL := Lib.hid hL
  have HP := Lib.hid hp
  clear hL hp
  go_enter Tryd.func40, Tryd.ntmps40
  go_wp2_with fail
  go_loopw [8] (fun i wr => IdxRel p L w i wr) (fun i _ => L.length - (intOf i).toNat)
  case atStart => exact ⟨0, Nat.zero_le _, rfl, rfl, Below.refl _ _⟩
  case round =>
    obtain ⟨k, hk, rfl, hg, hB⟩ := hrel
    have HG := Lib.hid hg
    have HB := Lib.hid hB
    clear hg hB
    by_cases hlt : k < L.length
    · obtain ⟨pb, po, rfl, c0, c1⟩ := (HL.out.below HB.out) k L[k] (List.getElem?_eq_getElem hlt)
      have hdrop : L.drop k = L[k] :: L.drop (k + 1) := List.drop_eq_getElem_cons hlt
      generalize hF : L[k] = f at c0 c1 hdrop
      have hgd : sigIdx p 0 L = if p f = true then (k : Int) else sigIdx p (k + 1) (L.drop (k + 1)) := by rw [HG.out, hdrop]; rfl
      have HD := Lib.hid hgd
      have hk0 : (0 : Int) ≤ (k : Int) := Int.natCast_nonneg _
      have hk1 : (k : Int) < (L.length : Int) := by omega
      have hpf := HP.out wr f HB.out
      unfold sigV at hpf
      have HPF := Lib.hid hpf
      clear hdrop hgd hF hpf
      go_wp2_with fail
      refine HPF.out.mono ?_
      rintro e w1 ⟨rfl, hb⟩
      have HB1 := Lib.hid (HB.out.trans (hb.mono HB.out.size))
      clear hb
      cases hpb : p f with
      | true =>
        have HR := Lib.hid (HD.out.trans (if_pos hpb))
        go_wp2_with fail
        go_ret
        rw [HR.out]
        exact ⟨rfl, HB1.out⟩
      | false =>
        have HR := Lib.hid (HD.out.trans (if_neg (by rw [hpb]; decide)))
        go_wp2_with fail
        refine ⟨⟨k + 1, hlt, rfl, HR.out, HB1.out⟩, ?_⟩
        show L.length - ((k : Int) + 1).toNat < L.length - (k : Int).toNat
        omega
    · have hkn : k = L.length := by omega
      subst hkn
      have hres : sigIdx p 0 L = -1 := by rw [HG.out, List.drop_length]; rfl
      have HR := Lib.hid hres
      clear hres
      go_wp2_with fail
      go_ret
      rw [HR.out]
      exact ⟨rfl, HB.out⟩

set_option maxRecDepth 100000 in
theorem sigcon_any (g : Nat) (lb : Array Value) (eg : ∀ args w, (callFunc g args).run Tryd.prog w = .ok (.enter g args) w) (p : SigT → Bool) (ad : Option Addr) (L : List SigT) (c : Nat) (w : World) (hL : SigsM w ad L) (hn : L.length ≤ 9223372036854775807) (hp : SigPred g lb p w) :
    Calls Tryd.prog 54 #[.slice ad L.length c, .func (.func g) #[] lb] w fun e w' => e = .returned (.bool (L.any p)) ∧ Below w.heap.size w w' := by
  have HC := Lib.hid (sigidx_any g lb eg p ad L c w hL hn hp)
  rw [← sigIdx_any p L 0]
  generalize sigIdx p 0 L = i at HC
  go_enter Tryd.func54, Tryd.ntmps54
  go_wp2_with fail
  refine HC.out.mono ?_
  rintro e w1 ⟨rfl, hb⟩
  have HB := Lib.hid hb
  clear hb
  go_wp2_with fail
  go_ret
  exact ⟨rfl, HB.out⟩

/-! ### a bad signature, a good note -/
def sigBad (x : SigT) : Bool := !(decide (x.1.size = 32)) || decide (x.2.size = 0) || decide (1024 < x.2.size)
set_option maxRecDepth 100000 in
set_option maxHeartbeats 1000000 in
theorem goodf_any (i t : ByteArray) (w : World) :
    Calls Tryd.prog 55 #[.agg #[.string i, .string t]] w fun e w' => e = .returned (.bool (sigBad (i, t))) ∧ Below w.heap.size w w' := by
  obtain ⟨res, hres⟩ : ∃ res, res = sigBad (i, t) := ⟨_, rfl⟩
  rw [← hres]
  unfold sigBad at hres
  have hK : ∀ o, Below w.heap.size w (w.alloc o) := fun o => (Below.refl _ _).alloc (Nat.le_refl _) o
  by_cases h1 : (i.size : Int) = 32
  · have b1 : ((i.size : Int) == 32) = true := beq_iff_eq.2 h1
    have b1n : ((i.size : Int) != 32) = false := by rw [bne, b1]; rfl
    have d1 : i.size = 32 := by omega
    by_cases h2 : t.size = 0
    · have e1 : (t.toList == ByteArray.toList ⟨#[]⟩) = true := by rw [(size_zero_iff t).1 h2, (size_zero_iff ⟨#[]⟩).1 rfl]; rfl
      have e2 : t.toList.isEmpty = true := by rw [(size_zero_iff t).1 h2]; rfl
      have hr : res = true := by rw [hres]; simp [d1, h2]
      have HR := Lib.hid hr
      clear hr hres
      go_enter Tryd.func55, Tryd.ntmps55
      go_wp2_with fail
      go_ret
      rw [HR.out]
      exact ⟨rfl, hK _⟩
    · have e2 : t.toList.isEmpty = false := by cases hl : t.toList with | nil => exact absurd ((size_zero_iff t).2 hl) h2 | cons a b => rfl
      by_cases h3 : (1024 : Int) < (t.size : Int)
      · have hr : res = true := by rw [hres, decide_eq_true (show 1024 < t.size by omega)]; simp
        have HR := Lib.hid hr
        clear hr hres
        go_enter Tryd.func55, Tryd.ntmps55
        go_wp2_with fail
        go_ret
        rw [HR.out]
        exact ⟨rfl, hK _⟩
      · have hr : res = false := by rw [hres, decide_eq_false (show ¬ 1024 < t.size by omega), decide_eq_false h2, decide_eq_true d1]; rfl
        have HR := Lib.hid hr
        clear hr hres
        go_enter Tryd.func55, Tryd.ntmps55
        go_wp2_with fail
        go_ret
        rw [HR.out]
        exact ⟨rfl, hK _⟩
  · have b1 : ((i.size : Int) == 32) = false := beq_eq_false_iff_ne.2 h1
    have b1n : ((i.size : Int) != 32) = true := bne_iff_ne.2 h1
    have hr : res = true := by rw [hres, decide_eq_false (show ¬ i.size = 32 by omega)]; rfl
    have HR := Lib.hid hr
    clear hr hres
    go_enter Tryd.func55, Tryd.ntmps55
    go_wp2_with fail
    go_ret
    rw [HR.out]
    exact ⟨rfl, hK _⟩
theorem enter_good : ∀ args w, (callFunc 55 args).run Tryd.prog w = .ok (.enter 55 args) w := fun args w => by kernel_rfl
theorem pred_good (w : World) : SigPred 55 #[] sigBad w := fun W x _ => goodf_any x.1 x.2 W

def noteG (t : ByteArray) (L : List SigT) : Bool := decide (L.length ≤ 16) && (Lib.hasSuffix t.data.toList [10] && (!Lib.hasPrefix t.data.toList [10] && (!Lib.contains t.data.toList [10, 10] && !L.any sigBad)))
set_option maxRecDepth 100000 in
set_option maxHeartbeats 1000000 in
theorem good_any (t : ByteArray) (ad : Option Addr) (L : List SigT) (c : Nat) (w : World) (ht : t.size < 4294967281) (hn : L.length ≤ 9223372036854775807) (hL : SigsM w ad L) (hV : VarsV w) :
    Calls Tryd.prog 31 #[.agg #[.string t, .slice ad L.length c]] w fun e w' => e = .returned (.bool (noteG t L)) ∧ Below w.heap.size w w' := by
  obtain ⟨-, -, ⟨m, hm⟩, -, -⟩ := hV
  have HS := Lib.hid (fun W => Tryd.strings_HasSuffix t ⟨#[10]⟩ W (by omega))
  have HP := Lib.hid (fun W => Tryd.strings_HasPrefix t ⟨#[10]⟩ W)
  have HC := Lib.hid (fun W (h : W.cell? ⟨2, 0, none⟩ = some (.int .i64 m)) => Tryd.strings_Contains t ⟨#[10, 10]⟩ m W ht h)
  have HF := Lib.hid (fun W (h : SigsM W ad L) => sigcon_any 55 #[] enter_good sigBad ad L c W h hn (pred_good W))
  have HL := Lib.hid hL
  obtain ⟨res, hres⟩ : ∃ res, res = noteG t L := ⟨_, rfl⟩
  rw [← hres]
  unfold noteG at hres
  have hx1 : (⟨#[10]⟩ : ByteArray).data.toList = [10] := rfl
  have hx2 : (⟨#[10, 10]⟩ : ByteArray).data.toList = [10, 10] := rfl
  rw [hx1] at HS HP
  rw [hx2] at HC
  generalize Lib.hasSuffix t.data.toList [10] = b1 at HS hres
  generalize Lib.hasPrefix t.data.toList [10] = b2 at HP hres
  generalize Lib.contains t.data.toList [10, 10] = b3 at HC hres
  generalize L.any sigBad = b4 at HF hres
  have HR := Lib.hid hres
  have hK := (Below.refl w.heap.size w).alloc (Nat.le_refl _) (.cells #[.string t, .slice ad L.length c] 33)
  have HK := Lib.hid hK
  clear hL hres hx1 hx2 hK
  by_cases h16 : (16 : Int) < (L.length : Int)
  · have hr : res = false := by rw [HR.out, decide_eq_false (show ¬ L.length ≤ 16 by omega)]; rfl
    have HR2 := Lib.hid hr
    clear hr
    go_enter Tryd.func31, Tryd.ntmps31
    go_wp2_with fail
    go_ret
    rw [HR2.out]
    exact ⟨rfl, HK.out⟩
  · have hr := HR.out
    rw [decide_eq_true (show L.length ≤ 16 by omega), Bool.true_and] at hr
    have HR2 := Lib.hid hr
    clear hr HR
    go_enter Tryd.func31, Tryd.ntmps31
    go_wp2_with fail
    refine (HS.out _).mono ?_
    rintro e w1 ⟨rfl, rfl⟩
    cases b1 with
    | false =>
      go_wp2_with fail
      go_ret
      rw [HR2.out]
      exact ⟨rfl, HK.out⟩
    | true =>
      go_wp2_with fail
      refine (HP.out _).mono ?_
      rintro e w1 ⟨rfl, rfl⟩
      cases b2 with
      | true =>
        go_wp2_with fail
        go_ret
        rw [HR2.out]
        exact ⟨rfl, HK.out⟩
      | false =>
        go_wp2_with fail
        refine (HC.out _ (cell_alloc hm _)).mono ?_
        rintro e w1 ⟨rfl, rfl⟩
        cases b3 with
        | true =>
          go_wp2_with fail
          go_ret
          rw [HR2.out]
          exact ⟨rfl, HK.out⟩
        | false =>
          go_wp2_with fail
          refine (HF.out _ (HL.out.below ((Below.refl _ _).alloc (Nat.le_refl _) _))).mono ?_
          rintro e w1 ⟨rfl, hb⟩
          have HB := Lib.hid (HK.out.trans (hb.mono HK.out.size))
          clear hb
          go_wp2_with fail
          go_ret
          rw [HR2.out]
          exact ⟨by cases b4 <;> rfl, HB.out⟩
end Go.Proofs.YtmejjphliaiamaaDoor
