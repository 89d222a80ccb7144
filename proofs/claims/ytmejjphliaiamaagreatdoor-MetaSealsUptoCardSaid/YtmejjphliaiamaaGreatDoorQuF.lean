import Derived.Test.YtmejjphliaiamaaGreatDoorQuE
import Derived.Test.YtmejjphliaiamaaGreatDoorSgI
set_option linter.unusedVariables false
set_option linter.unusedSimpArgs false
namespace Go.Proofs.YtmejjphliaiamaaGreatDoor
open Go Go.RowKit Go.Lib

/-! ### sealed -/
def longS (x : SigT) : Bool := decide (1024 < x.2.size)
theorem enter_seal : ∀ args w, (callFunc 48 args).run Tryz.prog w = .ok (.enter 48 args) w := fun args w => by kernel_rfl
set_option maxRecDepth 100000 in
theorem sealf_any (x : SigT) (w : World) : Calls Tryz.prog 48 #[.agg #[.string x.1, .string x.2]] w fun e w' => e = .returned (.bool (longS x)) ∧ Below w.heap.size w w' := by
  have hK : ∀ o, Below w.heap.size w (w.alloc o) := fun o => (Below.refl _ _).alloc (Nat.le_refl _) o
  obtain ⟨res, hres⟩ : ∃ res, res = longS x := ⟨_, rfl⟩
  rw [← hres]
  by_cases h : (1024 : Int) < (x.2.size : Int)
  · obtain rfl : res = true := by rw [hres]; exact decide_eq_true (by omega)
    clear hres
    go_enter Tryz.func48, Tryz.ntmps48
    go_wp2_with fail
    go_ret
    exact ⟨rfl, hK _⟩
  · obtain rfl : res = false := by rw [hres]; exact decide_eq_false (by omega)
    clear hres
    go_enter Tryz.func48, Tryz.ntmps48
    go_wp2_with fail
    go_ret
    exact ⟨rfl, hK _⟩
def sealP (body : ByteArray) (L : List SigT) : ByteArray × Int := if 65535 < body.size ∨ 16 < L.length ∨ L.any longS = true then (⟨#[]⟩, 1) else wOut (laySigsP (pText (⟨#[]⟩, false) body) L)

set_option maxRecDepth 100000 in
set_option maxHeartbeats 2000000 in
theorem seal_any (body : ByteArray) (ad : Option Addr) (L : List SigT) (c : Nat) (w : World) (hL : SigsM w ad L) (hn : L.length ≤ 1000000) (hz : sigsZ L ≤ 1000000000) :
    Calls Tryz.prog 13 #[.string body, .slice ad L.length c] w fun e w' => e = .returned (.tuple #[.string (sealP body L).1, .int .i64 (sealP body L).2]) ∧ Below w.heap.size w w' := by
  have hs : sealP body L = if 65535 < body.size ∨ 16 < L.length ∨ L.any longS = true then (⟨#[]⟩, 1) else wOut (laySigsP (pText (⟨#[]⟩, false) body) L) := rfl
  generalize sealP body L = R at hs ⊢
  have HS := Lib.hid hs
  have HL := Lib.hid hL
  have HC := Lib.hid (sigcon_any 48 #[] enter_seal longS ad L c w hL (by omega) (fun W x hW => sealf_any x W))
  clear hs hL
  by_cases h1 : (65535 : Int) < (body.size : Int)
  · obtain rfl : R = (⟨#[]⟩, 1) := by rw [HS.out, if_pos (.inl (by omega))]
    go_enter Tryz.func13, Tryz.ntmps13
    go_wp2_with fail
    go_ret2
    exact ⟨rfl, Below.refl _ _⟩
  by_cases h2 : (16 : Int) < (L.length : Int)
  · obtain rfl : R = (⟨#[]⟩, 1) := by rw [HS.out, if_pos (.inr (.inl (by omega)))]
    go_enter Tryz.func13, Tryz.ntmps13
    go_wp2_with fail
    go_ret2
    exact ⟨rfl, Below.refl _ _⟩
  cases h3 : L.any longS with
  | true =>
    obtain rfl : R = (⟨#[]⟩, 1) := by rw [HS.out, if_pos (.inr (.inr h3))]
    rw [h3] at HC
    go_enter Tryz.func13, Tryz.ntmps13
    go_wp2_with fail
    refine HC.out.mono ?_
    rintro e w1 ⟨rfl, hb⟩
    have HB := Lib.hid hb
    clear hb
    go_wp2_with fail
    go_ret2
    exact ⟨rfl, HB.out⟩
  | false =>
    have hR : R = wOut (laySigsP (pText (⟨#[]⟩, false) body) L) := by rw [HS.out, if_neg (by rintro (h | h | h); omega; omega; rw [h3] at h; cases h)]
    rw [h3] at HC
    have HR := Lib.hid hR
    have hq : (pText (⟨#[]⟩, false) body).1.size ≤ 65540 := by
      unfold pText
      show ((wNum _ body.size 2).1 ++ body).size ≤ _
      have := wNum_size (⟨#[]⟩, false) body.size 2
      have e : ((⟨#[]⟩ : ByteArray), false).1.size = 0 := rfl
      rw [ByteArray.size_append]
      omega
    clear hR HS h3
    rw [HR.out]
    clear HR
    generalize hq0 : pText (⟨#[]⟩, false) body = q0 at hq ⊢
    have HQ0 := Lib.hid hq0
    generalize hq3 : laySigsP q0 L = q3
    have HQ3 := Lib.hid hq3.symm
    clear hq0 hq3
    go_enter Tryz.func13, Tryz.ntmps13
    go_wp2_with fail
    refine HC.out.mono ?_
    rintro e w1 ⟨rfl, hb⟩
    have HB := Lib.hid hb
    clear hb HC
    have g0 := wg_new 75 (L := []) HB.out HB.out.size (fun x hx => by cases hx)
    go_wp2_with fail
    generalize w1.alloc (.cells #[.slice none 0 0, .bool false] 75) = w2 at g0 ⊢
    generalize w1.heap.size = wb at g0 ⊢
    have G1 := Lib.hid g0
    obtain ⟨v1, hv⟩ := g0.ex
    have HV := Lib.hid hv
    clear g0 hv HB
    refine (ptext_any _ wb v1 _ body w2 (by show 0 + body.size ≤ _; omega) HV.out).mono ?_
    rintro e w3 ⟨rfl, hk⟩
    have hg2 := G1.out.step HV.out hk
    rw [HQ0.out] at hg2
    have G2 := Lib.hid hg2
    clear hg2 hk G1 HV HQ0
    go_wp2_with fail
    refine (laysigs_any w wb [] q0 ad L c w3 HL.out (by omega) (by omega) G2.out).mono ?_
    rintro e w4 ⟨rfl, hg3⟩
    have G3 := Lib.hid hg3
    obtain ⟨v3, hv⟩ := hg3.ex
    have HV := Lib.hid hv
    clear hg3 hv G2
    have h3e : q3 = laySigsP q0 L := HQ3.out
    rw [← h3e] at G3 HV
    clear h3e HQ3
    go_wp2_with fail
    refine (pbytes_any _ wb v3 q3 w4 HV.out).mono ?_
    rintro e w5 ⟨rfl, rfl⟩
    go_wp2_with fail
    go_ret2
    exact ⟨rfl, G3.out.below⟩
end Go.Proofs.YtmejjphliaiamaaGreatDoor
