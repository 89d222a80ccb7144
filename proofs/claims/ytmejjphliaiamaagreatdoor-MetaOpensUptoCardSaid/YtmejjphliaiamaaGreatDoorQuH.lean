import Derived.Test.YtmejjphliaiamaaGreatDoorQuD
import Derived.Test.YtmejjphliaiamaaGreatDoorSgS
import Derived.Test.YtmejjphliaiamaaGreatDoorPkR
set_option linter.unusedVariables false
set_option linter.unusedSimpArgs false
namespace Go.Proofs.YtmejjphliaiamaaGreatDoor
open Go Go.RowKit Go.Lib

/-! ### unsealed -/
def usA (s : ByteArray) : ByteArray × RS := rTxt (s, 0) 65535
def usT (s : ByteArray) : List SigT × RS := takeP (usA s).2
def usP (s : ByteArray) : (ByteArray × List SigT) × Int := if (rEnd (usT s).2).2 ≠ 0 ∨ 16 < (usT s).1.length then ((⟨#[]⟩, []), 3) else (((usA s).1, (usT s).1), 0)
theorem takeP_size (r : RS) : (takeP r).2.1.size ≤ r.1.size := Nat.le_trans (takeN_size _ _) (rRaw_size r 1).2
theorem RdP.belowN {T : TypeId} {b : Nat} {r : RS} {w0 w w' : World} (h : Below w0.heap.size w0 w) (hb : w0.heap.size ≤ b) (k : RdP T b r w w') : Below w0.heap.size w0 w' :=
  h.trans (k.2.toBelow h.size (fun i hi => by omega))
def UsPost (s : ByteArray) (w : World) (e : Ending) (w' : World) : Prop := ∃ v, e = .returned (.tuple #[.string (usP s).1.1, v, .int .i64 (usP s).2]) ∧ OwnG w' w.heap.size v (usP s).1.2 ∧ Below w.heap.size w w'

set_option maxRecDepth 100000 in
set_option maxHeartbeats 2000000 in
theorem unseal_any (s : ByteArray) (w : World) (hs : s.size ≤ 1000000000) : Calls Tryz.prog 15 #[.string s] w (UsPost s w) := by
  have hu : usP s = if (rEnd (usT s).2).2 ≠ 0 ∨ 16 < (usT s).1.length then ((⟨#[]⟩, []), 3) else (((usA s).1, (usT s).1), 0) := rfl
  have ht : usT s = takeP (usA s).2 := rfl
  have ha : usA s = rTxt (s, 0) 65535 := rfl
  have hz1 : (usA s).2.1.size ≤ s.size := rTxt_sz (s, 0) 65535
  have hz2 : (usT s).2.1.size ≤ (usA s).2.1.size := takeP_size _
  unfold UsPost
  generalize usP s = U at hu ⊢
  generalize usT s = T at hu ht hz2
  generalize usA s = A at hu ht ha hz1 hz2
  have HU := Lib.hid hu
  have HT := Lib.hid ht
  have HA := Lib.hid ha
  clear hu ht ha
  go_enter Tryz.func15, Tryz.ntmps15
  go_wp2_with fail
  refine (read_any s w).mono ?_
  rintro e w1 ⟨rfl, hw⟩
  have hB : Below w.heap.size w w1 := by rw [hw]; exact (Below.refl _ w).alloc (Nat.le_refl _) _
  have hR : Rdr 136 w1 w.heap.size (s, 0) := by rw [hw]; exact rdr_new _ w s
  have hb1 := hR.lt
  have HB1 := Lib.hid hB
  have HR1 := Lib.hid hR
  clear hw hB hR
  go_wp2_with fail
  have h2 := rtxt_any w.heap.size (s, 0) 65535 w1 (by decide) (by show s.size ≤ _; omega) HR1.out
  rw [← HA.out] at h2
  refine h2.mono ?_
  rintro e w2 ⟨rfl, k2⟩
  have HB2 := Lib.hid (k2.belowN HB1.out (Nat.le_refl _))
  have HR2 := Lib.hid k2.1
  have hs2 := k2.2.size
  clear h2 k2 HB1 HR1
  go_wp2_with fail
  have h3 := takesigs_any w.heap.size A.2 w2 (by omega) HR2.out
  rw [← HT.out] at h3
  refine h3.mono ?_
  rintro e w3 ⟨v, rfl, ho, k3⟩
  have HB3 := Lib.hid (k3.belowN HB2.out (Nat.le_refl _))
  have HR3 := Lib.hid k3.1
  have HO3 := Lib.hid (OwnL.base ho (base' := w.heap.size + 1) (fun g hg => by have := (OwnL.lt ho g hg).1; omega))
  clear h3 k3 ho HB2 HR2 HT HA
  go_wp2_with fail
  refine (rend_any w.heap.size T.2 w3 (by omega) HR3.out).mono ?_
  rintro e w4 ⟨rfl, k4⟩
  have HB4 := Lib.hid (k4.belowN HB3.out (Nat.le_refl _))
  have HO4 : Hid (OwnG w4 w.heap.size v T.1) := Lib.hid (OwnL.base (OwnL.kp HO3.out k4.2 (fun g hg => by have := (OwnL.lt HO3.out g hg).1; omega)) (fun g hg => by have := (OwnL.lt HO3.out g hg).1; omega))
  obtain ⟨ao, cap, rfl, -, -, -⟩ := OwnL.form HO4.out
  clear k4 HB3 HR3 HO3
  by_cases h0 : (rEnd T.2).2 = 0
  · have b1 : ((rEnd T.2).2 == 0) = true := beq_iff_eq.2 h0
    have b2 : ((rEnd T.2).2 != 0) = false := by rw [bne, b1]; rfl
    by_cases h16 : 16 < T.1.length
    · have hu : U = ((⟨#[]⟩, []), 3) := by rw [HU.out, if_pos (.inr h16)]
      have h16' : (16 : Int) < (T.1.length : Int) := by omega
      obtain rfl := hu
      go_wp2_with fail
      go_ret3
      exact ⟨_, rfl, ownL_nil _ _, HB4.out⟩
    · have hu : U = ((A.1, T.1), 0) := by rw [HU.out, if_neg (fun h => h.elim (fun h => h h0) h16)]
      have h16' : ¬ (16 : Int) < (T.1.length : Int) := by omega
      obtain rfl := hu
      go_wp2_with fail
      go_ret3
      exact ⟨_, rfl, HO4.out, HB4.out⟩
  · have b1 : ((rEnd T.2).2 == 0) = false := beq_eq_false_iff_ne.2 h0
    have b2 : ((rEnd T.2).2 != 0) = true := by rw [bne, b1]; rfl
    have hu : U = ((⟨#[]⟩, []), 3) := by rw [HU.out, if_pos (.inl h0)]
    obtain rfl := hu
    go_wp2_with fail
    go_ret3
    exact ⟨_, rfl, ownL_nil _ _, HB4.out⟩

set_option maxRecDepth 100000 in
set_option maxHeartbeats 2000000 in
theorem runseal_any (s : ByteArray) (w : World) (hs : s.size ≤ 1000000000) : Calls Tryz.prog 16 #[.string s] w (UsPost s w) := by
  have hu : usP s = if (rEnd (usT s).2).2 ≠ 0 ∨ 16 < (usT s).1.length then ((⟨#[]⟩, []), 3) else (((usA s).1, (usT s).1), 0) := rfl
  have ht : usT s = takeP (usA s).2 := rfl
  have ha : usA s = rTxt (s, 0) 65535 := rfl
  have hz1 : (usA s).2.1.size ≤ s.size := rTxt_sz (s, 0) 65535
  have hz2 : (usT s).2.1.size ≤ (usA s).2.1.size := takeP_size _
  unfold UsPost
  generalize usP s = U at hu ⊢
  generalize usT s = T at hu ht hz2
  generalize usA s = A at hu ht ha hz1 hz2
  have HU := Lib.hid hu
  have HT := Lib.hid ht
  have HA := Lib.hid ha
  clear hu ht ha
  go_enter Tryz.func16, Tryz.ntmps16
  go_wp2_with fail
  refine (qread_any s w).mono ?_
  rintro e w1 ⟨rfl, hw⟩
  have hB : Below w.heap.size w w1 := by rw [hw]; exact (Below.refl _ w).alloc (Nat.le_refl _) _
  have hR : Rdr 141 w1 w.heap.size (s, 0) := by rw [hw]; exact rdr_new _ w s
  have hb1 := hR.lt
  have HB1 := Lib.hid hB
  have HR1 := Lib.hid hR
  clear hw hB hR
  go_wp2_with fail
  have h2 := qtxt_any w.heap.size (s, 0) 65535 w1 (by decide) (by show s.size ≤ _; omega) HR1.out
  rw [← HA.out] at h2
  refine h2.mono ?_
  rintro e w2 ⟨rfl, k2⟩
  have HB2 := Lib.hid (k2.belowN HB1.out (Nat.le_refl _))
  have HR2 := Lib.hid k2.1
  have hs2 := k2.2.size
  clear h2 k2 HB1 HR1
  go_wp2_with fail
  have h3 := qtakesigs_any w.heap.size A.2 w2 (by omega) HR2.out
  rw [← HT.out] at h3
  refine h3.mono ?_
  rintro e w3 ⟨v, rfl, ho, k3⟩
  have HB3 := Lib.hid (k3.belowN HB2.out (Nat.le_refl _))
  have HR3 := Lib.hid k3.1
  have HO3 := Lib.hid (OwnL.base ho (base' := w.heap.size + 1) (fun g hg => by have := (OwnL.lt ho g hg).1; omega))
  clear h3 k3 ho HB2 HR2 HT HA
  go_wp2_with fail
  refine (qend_any w.heap.size T.2 w3 (by omega) HR3.out).mono ?_
  rintro e w4 ⟨rfl, k4⟩
  have HB4 := Lib.hid (k4.belowN HB3.out (Nat.le_refl _))
  have HO4 : Hid (OwnG w4 w.heap.size v T.1) := Lib.hid (OwnL.base (OwnL.kp HO3.out k4.2 (fun g hg => by have := (OwnL.lt HO3.out g hg).1; omega)) (fun g hg => by have := (OwnL.lt HO3.out g hg).1; omega))
  obtain ⟨ao, cap, rfl, -, -, -⟩ := OwnL.form HO4.out
  clear k4 HB3 HR3 HO3
  by_cases h0 : (rEnd T.2).2 = 0
  · have b1 : ((rEnd T.2).2 == 0) = true := beq_iff_eq.2 h0
    have b2 : ((rEnd T.2).2 != 0) = false := by rw [bne, b1]; rfl
    by_cases h16 : 16 < T.1.length
    · have hu : U = ((⟨#[]⟩, []), 3) := by rw [HU.out, if_pos (.inr h16)]
      have h16' : (16 : Int) < (T.1.length : Int) := by omega
      obtain rfl := hu
      go_wp2_with fail
      go_ret3
      exact ⟨_, rfl, ownL_nil _ _, HB4.out⟩
    · have hu : U = ((A.1, T.1), 0) := by rw [HU.out, if_neg (fun h => h.elim (fun h => h h0) h16)]
      have h16' : ¬ (16 : Int) < (T.1.length : Int) := by omega
      obtain rfl := hu
      go_wp2_with fail
      go_ret3
      exact ⟨_, rfl, HO4.out, HB4.out⟩
  · have b1 : ((rEnd T.2).2 == 0) = false := beq_eq_false_iff_ne.2 h0
    have b2 : ((rEnd T.2).2 != 0) = true := by rw [bne, b1]; rfl
    have hu : U = ((⟨#[]⟩, []), 3) := by rw [HU.out, if_pos (.inl h0)]
    obtain rfl := hu
    go_wp2_with fail
    go_ret3
    exact ⟨_, rfl, ownL_nil _ _, HB4.out⟩

/-! ### sealed -/
def longS (x : SigT) : Bool := decide (1024 < x.2.size)
theorem enter_seal : ∀ args w, (callFunc 48 args).run Tryz.prog w = .ok (.enter 48 args) w := fun args w => by kernel_rfl
set_option maxRecDepth 100000 in
theorem sealf_any (x : SigT) (w : World) : Calls Tryz.prog 48 #[.agg #[.string x.1, .string x.2]] w fun e w' => e = .returned (.bool (longS x)) ∧ Below w.heap.size w w' := by
  have hK : ∀ o, Below w.heap.size w (w.alloc o) := fun o => (Below.refl _ _).alloc (Nat.le_refl _) o
  obtain ⟨res, hres⟩ : ∃ res, res = longS x := ⟨_, rfl⟩
  rw [← hres]
  by_cases h : (1024 : Int) < (x.2.size : Int)
  · obtain rfl : res = true := by rw [hres]; exact decide_eq_true (by omega)
    clear hres
    go_enter Tryz.func48, Tryz.ntmps48
    go_wp2_with fail
    go_ret
    exact ⟨rfl, hK _⟩
  · obtain rfl : res = false := by rw [hres]; exact decide_eq_false (by omega)
    clear hres
    go_enter Tryz.func48, Tryz.ntmps48
    go_wp2_with fail
    go_ret
    exact ⟨rfl, hK _⟩
def sealP (body : ByteArray) (L : List SigT) : ByteArray × Int := if 65535 < body.size ∨ 16 < L.length ∨ L.any longS = true then (⟨#[]⟩, 1) else wOut (laySigsP (pText (⟨#[]⟩, false) body) L)

set_option maxRecDepth 100000 in
set_option maxHeartbeats 2000000 in
theorem seal_any (body : ByteArray) (ad : Option Addr) (L : List SigT) (c : Nat) (w : World) (hL : SigsM w ad L) (hn : L.length ≤ 1000000) (hz : sigsZ L ≤ 1000000000) :
    Calls Tryz.prog 13 #[.string body, .slice ad L.length c] w fun e w' => e = .returned (.tuple #[.string (sealP body L).1, .int .i64 (sealP body L).2]) ∧ Below w.heap.size w w' := by
  have hs : sealP body L = if 65535 < body.size ∨ 16 < L.length ∨ L.any longS = true then (⟨#[]⟩, 1) else wOut (laySigsP (pText (⟨#[]⟩, false) body) L) := rfl
  generalize sealP body L = R at hs ⊢
  have HS := Lib.hid hs
  have HL := Lib.hid hL
  have HC := Lib.hid (sigcon_any 48 #[] enter_seal longS ad L c w hL (by omega) (fun W x hW => sealf_any x W))
  clear hs hL
  by_cases h1 : (65535 : Int) < (body.size : Int)
  · obtain rfl : R = (⟨#[]⟩, 1) := by rw [HS.out, if_pos (.inl (by omega))]
    go_enter Tryz.func13, Tryz.ntmps13
    go_wp2_with fail
    go_ret2
    exact ⟨rfl, Below.refl _ _⟩
  by_cases h2 : (16 : Int) < (L.length : Int)
  · obtain rfl : R = (⟨#[]⟩, 1) := by rw [HS.out, if_pos (.inr (.inl (by omega)))]
    go_enter Tryz.func13, Tryz.ntmps13
    go_wp2_with fail
    go_ret2
    exact ⟨rfl, Below.refl _ _⟩
  cases h3 : L.any longS with
  | true =>
    obtain rfl : R = (⟨#[]⟩, 1) := by rw [HS.out, if_pos (.inr (.inr h3))]
    rw [h3] at HC
    go_enter Tryz.func13, Tryz.ntmps13
    go_wp2_with fail
    refine HC.out.mono ?_
    rintro e w1 ⟨rfl, hb⟩
    have HB := Lib.hid hb
    clear hb
    go_wp2_with fail
    go_ret2
    exact ⟨rfl, HB.out⟩
  | false =>
    have hR : R = wOut (laySigsP (pText (⟨#[]⟩, false) body) L) := by rw [HS.out, if_neg (by rintro (h | h | h); omega; omega; rw [h3] at h; cases h)]
    rw [h3] at HC
    have HR := Lib.hid hR
    have hq : (pText (⟨#[]⟩, false) body).1.size ≤ 65540 := by
      unfold pText
      show ((wNum _ body.size 2).1 ++ body).size ≤ _
      have := wNum_size (⟨#[]⟩, false) body.size 2
      have e : ((⟨#[]⟩ : ByteArray), false).1.size = 0 := rfl
      rw [ByteArray.size_append]
      omega
    clear hR HS h3
    rw [HR.out]
    clear HR
    generalize hq0 : pText (⟨#[]⟩, false) body = q0 at hq ⊢
    have HQ0 := Lib.hid hq0
    generalize hq3 : laySigsP q0 L = q3
    have HQ3 := Lib.hid hq3.symm
    clear hq0 hq3
    go_enter Tryz.func13, Tryz.ntmps13
    go_wp2_with fail
    refine HC.out.mono ?_
    rintro e w1 ⟨rfl, hb⟩
    have HB := Lib.hid hb
    clear hb HC
    have g0 := wg_new 75 (L := []) HB.out HB.out.size (fun x hx => by cases hx)
    go_wp2_with fail
    generalize w1.alloc (.cells #[.slice none 0 0, .bool false] 75) = w2 at g0 ⊢
    generalize w1.heap.size = wb at g0 ⊢
    have G1 := Lib.hid g0
    obtain ⟨v1, hv⟩ := g0.ex
    have HV := Lib.hid hv
    clear g0 hv HB
    refine (ptext_any _ wb v1 _ body w2 (by show 0 + body.size ≤ _; omega) HV.out).mono ?_
    rintro e w3 ⟨rfl, hk⟩
    have hg2 := G1.out.step HV.out hk
    rw [HQ0.out] at hg2
    have G2 := Lib.hid hg2
    clear hg2 hk G1 HV HQ0
    go_wp2_with fail
    refine (laysigs_any w wb [] q0 ad L c w3 HL.out (by omega) (by omega) G2.out).mono ?_
    rintro e w4 ⟨rfl, hg3⟩
    have G3 := Lib.hid hg3
    obtain ⟨v3, hv⟩ := hg3.ex
    have HV := Lib.hid hv
    clear hg3 hv G2
    have h3e : q3 = laySigsP q0 L := HQ3.out
    rw [← h3e] at G3 HV
    clear h3e HQ3
    go_wp2_with fail
    refine (pbytes_any _ wb v3 q3 w4 HV.out).mono ?_
    rintro e w5 ⟨rfl, rfl⟩
    go_wp2_with fail
    go_ret2
    exact ⟨rfl, G3.out.below⟩

/-! ### the reference seals -/
theorem WG.setBad {T : TypeId} {B : Nat} {w0 w : World} {b : Nat} {Lp : List (Nat × Array Value × TypeId)} {s : ByteArray} {x : Bool} (H : WG T B w0 w b Lp (s, x)) (hT : T ≠ 5) (y : Bool) : WG T B w0 (w.setCell ⟨b, 1, none⟩ (.bool y)) b Lp (s, y) := by
  obtain ⟨v, hv⟩ := H.ex
  obtain ⟨h1, h2⟩ := wr_bad hv hT y
  exact H.step hv ⟨v, h1, NewV.refl _ _, h2⟩
def rsealP (body : ByteArray) (L : List SigT) : ByteArray × Int := if 16 < L.length then (⟨#[]⟩, 1) else wOut ((rlayP (rText (⟨#[]⟩, false) body) L).1, (rlayP (rText (⟨#[]⟩, false) body) L).2 || L.any longS)
def RsRel (w0 : World) (b : Nat) (q : WS) (L : List SigT) (i : Value) (wr : World) : Prop := ∃ k : Nat, k ≤ L.length ∧ i = .int .i64 k ∧ WG 101 w0.heap.size w0 wr b [] (q.1, q.2 || (L.take k).any longS)

set_option maxRecDepth 100000 in
set_option maxHeartbeats 4000000 in
theorem rseal_any (body : ByteArray) (ad : Option Addr) (L : List SigT) (c : Nat) (w : World) (hL : SigsM w ad L) (hb : body.size ≤ 1000000000) (hn : L.length ≤ 1000000) (hx : ∀ x ∈ L, x.1.size ≤ 1000000000 ∧ x.2.size ≤ 1000000000) :
    Calls Tryz.prog 14 #[.string body, .slice ad L.length c] w fun e w' => e = .returned (.tuple #[.string (rsealP body L).1, .int .i64 (rsealP body L).2]) ∧ Below w.heap.size w w' := by
  unfold rsealP
  have HL := Lib.hid hL
  have HX := Lib.hid hx
  clear hL hx
  by_cases h2 : 16 < L.length
  · have h2' : (16 : Int) < (L.length : Int) := by omega
    rw [if_pos h2]
    go_enter Tryz.func14, Tryz.ntmps14
    go_wp2_with fail
    go_ret2
    exact ⟨rfl, Below.refl _ _⟩
  have h2' : ¬ (16 : Int) < (L.length : Int) := by omega
  rw [if_neg h2]
  have hq : (rText (⟨#[]⟩, false) body).1.size ≤ 65540 := by
    have := rText_size (⟨#[]⟩, false) body
    have e : ((⟨#[]⟩ : ByteArray), false).1.size = 0 := rfl
    omega
  have g0 := wg_new 101 (L := []) (Below.refl w.heap.size w) (Nat.le_refl _) (fun x hx => by cases hx)
  generalize hq0 : rText (⟨#[]⟩, false) body = q0 at hq
  have HQ0 := Lib.hid hq0
  generalize hq3 : rlayP q0 L = q3
  have HQ3 := Lib.hid hq3.symm
  clear hq0 hq3 h2
  obtain ⟨R, hR⟩ : ∃ R, R = wOut (q3.1, q3.2 || L.any longS) := ⟨_, rfl⟩
  rw [← hR]
  have HR := Lib.hid hR
  clear hR
  go_enter Tryz.func14, Tryz.ntmps14
  go_wp2_with fail
  generalize w.alloc (.cells #[.slice none 0 0, .bool false] 101) = w2 at g0 ⊢
  obtain ⟨wb, hwb⟩ : ∃ wb, wb = w.heap.size := ⟨_, rfl⟩
  have hg0 : WG 101 w.heap.size w w2 wb [] (⟨#[]⟩, false) := hwb ▸ g0
  rw [← hwb]
  have G1 := Lib.hid hg0
  obtain ⟨v1, hv⟩ := hg0.ex
  have HV := Lib.hid hv
  clear g0 hg0 hv hwb
  refine (rwtext_any _ wb v1 _ body w2 (by show 0 ≤ _; omega) (by omega) HV.out).mono ?_
  rintro e w3 ⟨rfl, hk⟩
  have hg2 := G1.out.step HV.out hk
  rw [HQ0.out] at hg2
  have G2 := Lib.hid hg2
  clear hg2 hk G1 HV HQ0
  go_wp2_with fail
  refine (rlaysigs_any w wb [] q0 ad L c w3 HL.out (by omega) (by omega) HX.out G2.out).mono ?_
  rintro e w4 ⟨rfl, hg3⟩
  rw [← HQ3.out] at hg3
  have G3 : Hid (WG 101 w.heap.size w w4 wb [] (q3.1, q3.2 || ([] : List SigT).any longS)) := Lib.hid (by rw [List.any_nil, Bool.or_false]; exact hg3)
  clear hg3 G2 HQ3
  go_wp2_with fail
  go_loopw [7] (fun i wr => RsRel w wb q3 L i wr) (fun i _ => L.length - (intOf i).toNat)
  case atStart => exact ⟨0, Nat.zero_le _, rfl, G3.out⟩
  case round =>
    clear G3
    obtain ⟨k, hk, rfl, hG⟩ := hrel
    have HG := Lib.hid hG
    obtain ⟨v2, hv2⟩ := hG.ex
    have HV2 := Lib.hid hv2
    have b1 : wr.cell? ⟨wb, 1, none⟩ = some (.bool (q3.2 || (L.take k).any longS)) := cell_of_blk hv2.blk 1 rfl
    have f1 := free_of_blk hv2.blk 1
    clear hG hv2
    by_cases hlt : k < L.length
    · have hk1 : (k : Int) < (L.length : Int) := by omega
      have hk0 : (0 : Int) ≤ (k : Int) := Int.natCast_nonneg _
      have hxx := HX.out L[k] (List.getElem_mem hlt)
      have htk : (q3.2 || (L.take (k + 1)).any longS) = ((q3.2 || (L.take k).any longS) || longS L[k]) := by
        rw [List.take_succ_eq_append_getElem hlt, List.any_append, List.any_cons, List.any_nil, Bool.or_false, Bool.or_assoc]
      obtain ⟨pb, po, rfl, s0, s1⟩ := (HL.out.below HG.out.below) k L[k] (List.getElem?_eq_getElem hlt)
      have HTk := Lib.hid htk
      clear htk s0
      generalize L[k] = x at s1 HTk hxx
      generalize (q3.2 || (L.take k).any longS) = cb at HG HV2 b1 HTk
      cases cb with
      | true =>
        go_wp2_with fail
        refine ⟨⟨k + 1, hlt, rfl, ?_⟩, ?_⟩
        · rw [HTk.out]
          exact HG.out.setBad (by decide) _
        · show L.length - ((k : Int) + 1).toNat < L.length - (k : Int).toNat
          omega
      | false =>
        by_cases h1024 : (1024 : Int) < (x.2.size : Int)
        · have hl : longS x = true := decide_eq_true (by omega)
          rw [hl] at HTk
          clear hl
          go_wp2_with fail
          refine ⟨⟨k + 1, hlt, rfl, ?_⟩, ?_⟩
          · rw [HTk.out]
            exact HG.out.setBad (by decide) _
          · show L.length - ((k : Int) + 1).toNat < L.length - (k : Int).toNat
            omega
        · have hl : longS x = false := decide_eq_false (by omega)
          rw [hl] at HTk
          clear hl
          go_wp2_with fail
          refine ⟨⟨k + 1, hlt, rfl, ?_⟩, ?_⟩
          · rw [HTk.out]
            exact HG.out.setBad (by decide) _
          · show L.length - ((k : Int) + 1).toNat < L.length - (k : Int).toNat
            omega
    · obtain rfl : k = L.length := by omega
      have hfin : L.take L.length = L := List.take_length
      rw [hfin, ← hfin] at HG
      rw [hfin] at HV2 HG
      clear b1 f1
      go_wp2_with fail
      refine (rbytes_any _ wb v2 _ wr HV2.out).mono ?_
      rintro e w5 ⟨rfl, rfl⟩
      rw [← HR.out]
      go_wp2_with fail
      go_ret2
      exact ⟨rfl, HG.out.below⟩

/-! ### plain laws: sealed alike, and read again -/
theorem wOut_bad1 (s : ByteArray) : wOut (s, true) = (⟨#[]⟩, 1) := rfl
theorem rseal_eq (body : ByteArray) (L : List SigT) : rsealP body L = sealP body L := by
  unfold rsealP sealP
  by_cases h1 : 65535 < body.size
  · rw [if_pos (show 65535 < body.size ∨ 16 < L.length ∨ L.any longS = true from .inl h1)]
    split
    · rfl
    · have hb : (rText (⟨#[]⟩, false) body).2 = true := by unfold rText; rw [if_pos h1]
      have h2 : (rlayP (rText (⟨#[]⟩, false) body) L).2 = true := by
        unfold rlayP
        have h3 : (wNum (rText (⟨#[]⟩, false) body) L.length 1).2 = true := by
          unfold wNum
          split
          · rfl
          · exact hb
        rw [rlayF_bad h3]
        exact h3
      rw [h2]
      rfl
  · by_cases h2 : 16 < L.length
    · rw [if_pos h2, if_pos (show 65535 < body.size ∨ 16 < L.length ∨ L.any longS = true from .inr (.inl h2))]
    · rw [if_neg h2]
      cases h3 : L.any longS with
      | true => rw [if_pos (.inr (.inr rfl)), Bool.or_true]; rfl
      | false =>
        rw [if_neg (by rintro (h | h | h); exact h1 h; exact h2 h; cases h), Bool.or_false]
        exact (weq_sigs ((WEq.refl (⟨#[]⟩, false)).text body) L).out.symm
def sigsB : List SigT → ByteArray
  | [] => ⟨#[]⟩
  | x :: r => x.1 ++ (numB x.2.size 2 ++ (x.2 ++ sigsB r))
theorem pHash_good {q : WS} {s : ByteArray} (h : (pHash q s).2 = false) : q.2 = false ∧ s.size = 32 ∧ (pHash q s).1 = q.1 ++ s := by
  unfold pHash at h ⊢
  simp only [Bool.or_eq_false_iff, decide_eq_false_iff_not, ne_eq, Decidable.not_not] at h
  exact ⟨h.1, h.2, rfl⟩
theorem pText_good {q : WS} {s : ByteArray} (h : (pText q s).2 = false) : q.2 = false ∧ s.size ≤ 65535 ∧ (pText q s).1 = q.1 ++ numB s.size 2 ++ s := by
  have h2 : (wNum q s.size 2).2 = false := h
  obtain ⟨h3, h4, h5⟩ := wNum_good h2
  refine ⟨h3, ?_, by unfold pText; rw [h5]⟩
  unfold badN at h4
  simp at h4
  omega
theorem ba_assoc (a b c : ByteArray) : a ++ b ++ c = a ++ (b ++ c) := ByteArray.append_assoc
theorem layP_good {q : WS} {x : SigT} (h : (layP q x).2 = false) : q.2 = false ∧ x.1.size = 32 ∧ x.2.size ≤ 65535 ∧ (layP q x).1 = q.1 ++ (x.1 ++ (numB x.2.size 2 ++ x.2)) := by
  obtain ⟨h1, h2, h3⟩ := pText_good h
  obtain ⟨h4, h5, h6⟩ := pHash_good h1
  refine ⟨h4, h5, h2, ?_⟩
  show (pText (pHash q x.1) x.2).1 = _
  rw [h3, h6]
  simp only [ba_assoc]
theorem foldP_good : ∀ (L : List SigT) {q : WS}, (L.foldl layP q).2 = false → q.2 = false ∧ (∀ x ∈ L, x.1.size = 32 ∧ x.2.size ≤ 65535) ∧ (L.foldl layP q).1 = q.1 ++ sigsB L
  | [], q, h => ⟨h, fun x hx => (List.not_mem_nil hx).elim, by show q.1 = q.1 ++ ⟨#[]⟩; exact ByteArray.append_empty.symm⟩
  | x :: r, q, h => by
    obtain ⟨h1, h2, h3⟩ := foldP_good r (q := layP q x) h
    obtain ⟨g1, g2, g3, g4⟩ := layP_good h1
    refine ⟨g1, fun y hy => ?_, ?_⟩
    · rcases List.mem_cons.1 hy with rfl | hy
      · exact ⟨g2, g3⟩
      · exact h2 y hy
    · show (r.foldl layP (layP q x)).1 = q.1 ++ sigsB (x :: r)
      rw [h3, g4, sigsB]
      simp only [ba_assoc]
theorem takeN_cons (r : RS) : ∀ k, takeN r (k + 1) = (((rRaw r 32).1, (rTxt (rRaw r 32).2 1024).1) :: (takeN (rTxt (rRaw r 32).2 1024).2 k).1, (takeN (rTxt (rRaw r 32).2 1024).2 k).2)
  | 0 => rfl
  | k + 1 => by
    have ih := takeN_cons r k
    rw [takeN, ih]
    rfl
theorem takeN_back : ∀ (L : List SigT) (b : ByteArray), (∀ x ∈ L, x.1.size = 32 ∧ x.2.size ≤ 1024) → takeN (sigsB L ++ b, 0) L.length = (L, (b, 0))
  | [], b, h => by show (([] : List SigT), ((⟨#[]⟩ : ByteArray) ++ b, (0 : Int))) = _; rw [show (⟨#[]⟩ : ByteArray) ++ b = b from ByteArray.empty_append]
  | x :: r, b, h => by
    obtain ⟨h1, h2⟩ := h x (List.mem_cons_self)
    have e1 : rRaw (sigsB (x :: r) ++ b, 0) 32 = (x.1, (numB x.2.size 2 ++ (x.2 ++ (sigsB r ++ b)), 0)) := by
      rw [sigsB]
      simp only [ba_assoc]
      have := rRaw_app x.1 (numB x.2.size 2 ++ (x.2 ++ (sigsB r ++ b)))
      rwa [h1] at this
    have e2 := rTxt_app x.2 (sigsB r ++ b) 1024 (by omega) (by omega)
    rw [List.length_cons, takeN_cons, e1]
    dsimp only
    rw [e2]
    dsimp only
    rw [takeN_back r b (fun y hy => h y (List.mem_cons_of_mem _ hy))]
theorem us_back {body : ByteArray} {L : List SigT} (h : (sealP body L).2 = 0) : usP (sealP body L).1 = ((body, L), 0) := by
  unfold sealP at h ⊢
  by_cases hc : 65535 < body.size ∨ 16 < L.length ∨ L.any longS = true
  · rw [if_pos hc] at h
    cases h
  · rw [if_neg hc] at h ⊢
    obtain ⟨h1, h2⟩ := wOut_ok h
    rw [h2]
    clear h h2
    have h16 : ¬ 16 < L.length := fun h => hc (.inr (.inl h))
    have hany : ∀ x ∈ L, x.2.size ≤ 1024 := by
      intro x hx
      rcases Nat.lt_or_ge 1024 x.2.size with hl | hl
      · exact absurd (.inr (.inr (List.any_eq_true.2 ⟨x, hx, decide_eq_true hl⟩))) hc
      · exact hl
    obtain ⟨g1, g2, g3⟩ := foldP_good L (q := wNum (pText (⟨#[]⟩, false) body) L.length 1) h1
    obtain ⟨k1, k2, k3⟩ := wNum_good g1
    obtain ⟨m1, m2, m3⟩ := pText_good k1
    have e : (laySigsP (pText (⟨#[]⟩, false) body) L).1 = numB body.size 2 ++ (body ++ (numB L.length 1 ++ (sigsB L ++ ⟨#[]⟩))) := by
      show (L.foldl layP _).1 = _
      rw [g3, k3, m3]
      dsimp only
      rw [show (⟨#[]⟩ : ByteArray) ++ numB body.size 2 = numB body.size 2 from ByteArray.empty_append, show sigsB L ++ (⟨#[]⟩ : ByteArray) = sigsB L from ByteArray.append_empty]
      simp only [ba_assoc]
    rw [e]
    have a1 : usA (numB body.size 2 ++ (body ++ (numB L.length 1 ++ (sigsB L ++ ⟨#[]⟩)))) = (body, (numB L.length 1 ++ (sigsB L ++ ⟨#[]⟩), 0)) := rTxt_app body _ 65535 (by omega) m2
    have a2 := rNum_app L.length 1 (sigsB L ++ ⟨#[]⟩) k2 (by decide) (by omega)
    have a2' : rNum (numB L.length 1 ++ (sigsB L ++ ⟨#[]⟩), 0) 1 = ((L.length : Int), (sigsB L ++ ⟨#[]⟩, 0)) := a2
    have a3 := takeN_back L ⟨#[]⟩ (fun x hx => ⟨(g2 x hx).1, hany x hx⟩)
    have a4 : usT (numB body.size 2 ++ (body ++ (numB L.length 1 ++ (sigsB L ++ ⟨#[]⟩)))) = (L, (⟨#[]⟩, 0)) := by
      unfold usT
      rw [a1]
      unfold takeP
      dsimp only
      rw [a2']
      dsimp only
      rw [Int.toNat_natCast, a3]
      rfl
    unfold usP
    rw [a4, a1]
    dsimp only
    rw [rEnd_nil, if_neg (by rintro (h | h); exact h rfl; exact h16 h)]
end Go.Proofs.YtmejjphliaiamaaGreatDoor
