import Derived.Test.YtmejjphliaiamaaGreatDoorNoH
import Derived.Test.YtmejjphliaiamaaGreatDoorSg
import Derived.Test.YtmejjphliaiamaaGreatDoorSgS
set_option linter.unusedVariables false
set_option linter.unusedSimpArgs false
namespace Go.Proofs.YtmejjphliaiamaaGreatDoor
open Go Go.RowKit Go.Lib

/-! ### a bad signature, a good note -/
def sigBad (x : SigT) : Bool := !(decide (x.1.size = 32)) || decide (x.2.size = 0) || decide (1024 < x.2.size)
set_option maxRecDepth 100000 in
set_option maxHeartbeats 1000000 in
theorem goodf_any (i t : ByteArray) (w : World) :
    Calls Tryz.prog 169 #[.agg #[.string i, .string t]] w fun e w' => e = .returned (.bool (sigBad (i, t))) ∧ Below w.heap.size w w' := by
  obtain ⟨res, hres⟩ : ∃ res, res = sigBad (i, t) := ⟨_, rfl⟩
  rw [← hres]
  unfold sigBad at hres
  have hK : ∀ o, Below w.heap.size w (w.alloc o) := fun o => (Below.refl _ _).alloc (Nat.le_refl _) o
  by_cases h1 : (i.size : Int) = 32
  · have b1 : ((i.size : Int) == 32) = true := beq_iff_eq.2 h1
    have b1n : ((i.size : Int) != 32) = false := by rw [bne, b1]; rfl
    have d1 : i.size = 32 := by omega
    by_cases h2 : t.size = 0
    · have e1 : (t.toList == ByteArray.toList ⟨#[]⟩) = true := by rw [(size_zero_iff t).1 h2, (size_zero_iff ⟨#[]⟩).1 rfl]; rfl
      have e2 : t.toList.isEmpty = true := by rw [(size_zero_iff t).1 h2]; rfl
      have hr : res = true := by rw [hres]; simp [d1, h2]
      have HR := Lib.hid hr
      clear hr hres
      go_enter Tryz.func169, Tryz.ntmps169
      go_wp2_with fail
      go_ret
      rw [HR.out]
      exact ⟨rfl, hK _⟩
    · have e2 : t.toList.isEmpty = false := by cases hl : t.toList with | nil => exact absurd ((size_zero_iff t).2 hl) h2 | cons a b => rfl
      by_cases h3 : (1024 : Int) < (t.size : Int)
      · have hr : res = true := by rw [hres, decide_eq_true (show 1024 < t.size by omega)]; simp
        have HR := Lib.hid hr
        clear hr hres
        go_enter Tryz.func169, Tryz.ntmps169
        go_wp2_with fail
        go_ret
        rw [HR.out]
        exact ⟨rfl, hK _⟩
      · have hr : res = false := by rw [hres, decide_eq_false (show ¬ 1024 < t.size by omega), decide_eq_false h2, decide_eq_true d1]; rfl
        have HR := Lib.hid hr
        clear hr hres
        go_enter Tryz.func169, Tryz.ntmps169
        go_wp2_with fail
        go_ret
        rw [HR.out]
        exact ⟨rfl, hK _⟩
  · have b1 : ((i.size : Int) == 32) = false := beq_eq_false_iff_ne.2 h1
    have b1n : ((i.size : Int) != 32) = true := bne_iff_ne.2 h1
    have hr : res = true := by rw [hres, decide_eq_false (show ¬ i.size = 32 by omega)]; rfl
    have HR := Lib.hid hr
    clear hr hres
    go_enter Tryz.func169, Tryz.ntmps169
    go_wp2_with fail
    go_ret
    rw [HR.out]
    exact ⟨rfl, hK _⟩
theorem enter_good : ∀ args w, (callFunc 169 args).run Tryz.prog w = .ok (.enter 169 args) w := fun args w => by kernel_rfl
theorem pred_good (w : World) : SigPred 169 #[] sigBad w := fun W x _ => goodf_any x.1 x.2 W

def noteG (t : ByteArray) (L : List SigT) : Bool := decide (L.length ≤ 16) && (Lib.hasSuffix t.data.toList [10] && (!Lib.hasPrefix t.data.toList [10] && (!Lib.contains t.data.toList [10, 10] && !L.any sigBad)))
set_option maxRecDepth 100000 in
set_option maxHeartbeats 1000000 in
theorem good_any (t : ByteArray) (ad : Option Addr) (L : List SigT) (c : Nat) (w : World) (ht : t.size < 4294967281) (hn : L.length ≤ 9223372036854775807) (hL : SigsM w ad L) (hV : VarsV w) :
    Calls Tryz.prog 136 #[.agg #[.string t, .slice ad L.length c]] w fun e w' => e = .returned (.bool (noteG t L)) ∧ Below w.heap.size w w' := by
  obtain ⟨-, -, ⟨m, hm⟩, -, -⟩ := hV
  have HS := Lib.hid (fun W => Tryz.strings_HasSuffix t ⟨#[10]⟩ W (by omega))
  have HP := Lib.hid (fun W => Tryz.strings_HasPrefix t ⟨#[10]⟩ W)
  have HC := Lib.hid (fun W (h : W.cell? ⟨3, 0, none⟩ = some (.int .i64 m)) => Tryz.strings_Contains t ⟨#[10, 10]⟩ m W ht h)
  have HF := Lib.hid (fun W (h : SigsM W ad L) => sigcon_any 169 #[] enter_good sigBad ad L c W h hn (pred_good W))
  have HL := Lib.hid hL
  obtain ⟨res, hres⟩ : ∃ res, res = noteG t L := ⟨_, rfl⟩
  rw [← hres]
  unfold noteG at hres
  have hx1 : (⟨#[10]⟩ : ByteArray).data.toList = [10] := rfl
  have hx2 : (⟨#[10, 10]⟩ : ByteArray).data.toList = [10, 10] := rfl
  rw [hx1] at HS HP
  rw [hx2] at HC
  generalize Lib.hasSuffix t.data.toList [10] = b1 at HS hres
  generalize Lib.hasPrefix t.data.toList [10] = b2 at HP hres
  generalize Lib.contains t.data.toList [10, 10] = b3 at HC hres
  generalize L.any sigBad = b4 at HF hres
  have HR := Lib.hid hres
  have hK := (Below.refl w.heap.size w).alloc (Nat.le_refl _) (.cells #[.string t, .slice ad L.length c] 69)
  have HK := Lib.hid hK
  clear hL hres hx1 hx2 hK
  by_cases h16 : (16 : Int) < (L.length : Int)
  · have hr : res = false := by rw [HR.out, decide_eq_false (show ¬ L.length ≤ 16 by omega)]; rfl
    have HR2 := Lib.hid hr
    clear hr
    go_enter Tryz.func136, Tryz.ntmps136
    go_wp2_with fail
    go_ret
    rw [HR2.out]
    exact ⟨rfl, HK.out⟩
  · have hr := HR.out
    rw [decide_eq_true (show L.length ≤ 16 by omega), Bool.true_and] at hr
    have HR2 := Lib.hid hr
    clear hr HR
    go_enter Tryz.func136, Tryz.ntmps136
    go_wp2_with fail
    refine (HS.out _).mono ?_
    rintro e w1 ⟨rfl, rfl⟩
    cases b1 with
    | false =>
      go_wp2_with fail
      go_ret
      rw [HR2.out]
      exact ⟨rfl, HK.out⟩
    | true =>
      go_wp2_with fail
      refine (HP.out _).mono ?_
      rintro e w1 ⟨rfl, rfl⟩
      cases b2 with
      | true =>
        go_wp2_with fail
        go_ret
        rw [HR2.out]
        exact ⟨rfl, HK.out⟩
      | false =>
        go_wp2_with fail
        refine (HC.out _ (cell_alloc hm _)).mono ?_
        rintro e w1 ⟨rfl, rfl⟩
        cases b3 with
        | true =>
          go_wp2_with fail
          go_ret
          rw [HR2.out]
          exact ⟨rfl, HK.out⟩
        | false =>
          go_wp2_with fail
          refine (HF.out _ (HL.out.below ((Below.refl _ _).alloc (Nat.le_refl _) _))).mono ?_
          rintro e w1 ⟨rfl, hb⟩
          have HB := Lib.hid (HK.out.trans (hb.mono HK.out.size))
          clear hb
          go_wp2_with fail
          go_ret
          rw [HR2.out]
          exact ⟨by cases b4 <;> rfl, HB.out⟩
end Go.Proofs.YtmejjphliaiamaaGreatDoor
