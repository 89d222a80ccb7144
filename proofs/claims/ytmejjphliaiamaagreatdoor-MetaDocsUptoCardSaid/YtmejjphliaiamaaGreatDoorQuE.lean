import Derived.Test.YtmejjphliaiamaaGreatDoorQuD
set_option linter.unusedVariables false
set_option linter.unusedSimpArgs false
namespace Go.Proofs.YtmejjphliaiamaaGreatDoor
open Go Go.RowKit Go.Lib

/-! ### unsealed -/
def usA (s : ByteArray) : ByteArray × RS := rTxt (s, 0) 65535
def usT (s : ByteArray) : List SigT × RS := takeP (usA s).2
def usP (s : ByteArray) : (ByteArray × List SigT) × Int := if (rEnd (usT s).2).2 ≠ 0 ∨ 16 < (usT s).1.length then ((⟨#[]⟩, []), 3) else (((usA s).1, (usT s).1), 0)
theorem takeP_size (r : RS) : (takeP r).2.1.size ≤ r.1.size := Nat.le_trans (takeN_size _ _) (rRaw_size r 1).2
theorem RdP.belowN {T : TypeId} {b : Nat} {r : RS} {w0 w w' : World} (h : Below w0.heap.size w0 w) (hb : w0.heap.size ≤ b) (k : RdP T b r w w') : Below w0.heap.size w0 w' :=
  h.trans (k.2.toBelow h.size (fun i hi => by omega))
def UsPost (s : ByteArray) (w : World) (e : Ending) (w' : World) : Prop := ∃ v, e = .returned (.tuple #[.string (usP s).1.1, v, .int .i64 (usP s).2]) ∧ OwnG w' w.heap.size v (usP s).1.2 ∧ Below w.heap.size w w'

set_option maxRecDepth 100000 in
set_option maxHeartbeats 2000000 in
theorem unseal_any (s : ByteArray) (w : World) (hs : s.size ≤ 1000000000) : Calls Tryz.prog 15 #[.string s] w (UsPost s w) := by
  have hu : usP s = if (rEnd (usT s).2).2 ≠ 0 ∨ 16 < (usT s).1.length then ((⟨#[]⟩, []), 3) else (((usA s).1, (usT s).1), 0) := rfl
  have ht : usT s = takeP (usA s).2 := rfl
  have ha : usA s = rTxt (s, 0) 65535 := rfl
  have hz1 : (usA s).2.1.size ≤ s.size := rTxt_sz (s, 0) 65535
  have hz2 : (usT s).2.1.size ≤ (usA s).2.1.size := takeP_size _
  unfold UsPost
  generalize usP s = U at hu ⊢
  generalize usT s = T at hu ht hz2
  generalize usA s = A at hu ht ha hz1 hz2
  have HU := Lib.hid hu
  have HT := Lib.hid ht
  have HA := Lib.hid ha
  clear hu ht ha
  go_enter Tryz.func15, Tryz.ntmps15
  go_wp2_with fail
  refine (read_any s w).mono ?_
  rintro e w1 ⟨rfl, hw⟩
  have hB : Below w.heap.size w w1 := by rw [hw]; exact (Below.refl _ w).alloc (Nat.le_refl _) _
  have hR : Rdr 136 w1 w.heap.size (s, 0) := by rw [hw]; exact rdr_new _ w s
  have hb1 := hR.lt
  have HB1 := Lib.hid hB
  have HR1 := Lib.hid hR
  clear hw hB hR
  go_wp2_with fail
  have h2 := rtxt_any w.heap.size (s, 0) 65535 w1 (by decide) (by show s.size ≤ _; omega) HR1.out
  rw [← HA.out] at h2
  refine h2.mono ?_
  rintro e w2 ⟨rfl, k2⟩
  have HB2 := Lib.hid (k2.belowN HB1.out (Nat.le_refl _))
  have HR2 := Lib.hid k2.1
  have hs2 := k2.2.size
  clear h2 k2 HB1 HR1
  go_wp2_with fail
  have h3 := takesigs_any w.heap.size A.2 w2 (by omega) HR2.out
  rw [← HT.out] at h3
  refine h3.mono ?_
  rintro e w3 ⟨v, rfl, ho, k3⟩
  have HB3 := Lib.hid (k3.belowN HB2.out (Nat.le_refl _))
  have HR3 := Lib.hid k3.1
  have HO3 := Lib.hid (OwnL.base ho (base' := w.heap.size + 1) (fun g hg => by have := (OwnL.lt ho g hg).1; omega))
  clear h3 k3 ho HB2 HR2 HT HA
  go_wp2_with fail
  refine (rend_any w.heap.size T.2 w3 (by omega) HR3.out).mono ?_
  rintro e w4 ⟨rfl, k4⟩
  have HB4 := Lib.hid (k4.belowN HB3.out (Nat.le_refl _))
  have HO4 : Hid (OwnG w4 w.heap.size v T.1) := Lib.hid (OwnL.base (OwnL.kp HO3.out k4.2 (fun g hg => by have := (OwnL.lt HO3.out g hg).1; omega)) (fun g hg => by have := (OwnL.lt HO3.out g hg).1; omega))
  obtain ⟨ao, cap, rfl, -, -, -⟩ := OwnL.form HO4.out
  clear k4 HB3 HR3 HO3
  by_cases h0 : (rEnd T.2).2 = 0
  · have b1 : ((rEnd T.2).2 == 0) = true := beq_iff_eq.2 h0
    have b2 : ((rEnd T.2).2 != 0) = false := by rw [bne, b1]; rfl
    by_cases h16 : 16 < T.1.length
    · have hu : U = ((⟨#[]⟩, []), 3) := by rw [HU.out, if_pos (.inr h16)]
      have h16' : (16 : Int) < (T.1.length : Int) := by omega
      obtain rfl := hu
      go_wp2_with fail
      go_ret3
      exact ⟨_, rfl, ownL_nil _ _, HB4.out⟩
    · have hu : U = ((A.1, T.1), 0) := by rw [HU.out, if_neg (fun h => h.elim (fun h => h h0) h16)]
      have h16' : ¬ (16 : Int) < (T.1.length : Int) := by omega
      obtain rfl := hu
      go_wp2_with fail
      go_ret3
      exact ⟨_, rfl, HO4.out, HB4.out⟩
  · have b1 : ((rEnd T.2).2 == 0) = false := beq_eq_false_iff_ne.2 h0
    have b2 : ((rEnd T.2).2 != 0) = true := by rw [bne, b1]; rfl
    have hu : U = ((⟨#[]⟩, []), 3) := by rw [HU.out, if_pos (.inl h0)]
    obtain rfl := hu
    go_wp2_with fail
    go_ret3
    exact ⟨_, rfl, ownL_nil _ _, HB4.out⟩

set_option maxRecDepth 100000 in
set_option maxHeartbeats 2000000 in
theorem runseal_any (s : ByteArray) (w : World) (hs : s.size ≤ 1000000000) : Calls Tryz.prog 16 #[.string s] w (UsPost s w) := by
  have hu : usP s = if (rEnd (usT s).2).2 ≠ 0 ∨ 16 < (usT s).1.length then ((⟨#[]⟩, []), 3) else (((usA s).1, (usT s).1), 0) := rfl
  have ht : usT s = takeP (usA s).2 := rfl
  have ha : usA s = rTxt (s, 0) 65535 := rfl
  have hz1 : (usA s).2.1.size ≤ s.size := rTxt_sz (s, 0) 65535
  have hz2 : (usT s).2.1.size ≤ (usA s).2.1.size := takeP_size _
  unfold UsPost
  generalize usP s = U at hu ⊢
  generalize usT s = T at hu ht hz2
  generalize usA s = A at hu ht ha hz1 hz2
  have HU := Lib.hid hu
  have HT := Lib.hid ht
  have HA := Lib.hid ha
  clear hu ht ha
  go_enter Tryz.func16, Tryz.ntmps16
  go_wp2_with fail
  refine (qread_any s w).mono ?_
  rintro e w1 ⟨rfl, hw⟩
  have hB : Below w.heap.size w w1 := by rw [hw]; exact (Below.refl _ w).alloc (Nat.le_refl _) _
  have hR : Rdr 141 w1 w.heap.size (s, 0) := by rw [hw]; exact rdr_new _ w s
  have hb1 := hR.lt
  have HB1 := Lib.hid hB
  have HR1 := Lib.hid hR
  clear hw hB hR
  go_wp2_with fail
  have h2 := qtxt_any w.heap.size (s, 0) 65535 w1 (by decide) (by show s.size ≤ _; omega) HR1.out
  rw [← HA.out] at h2
  refine h2.mono ?_
  rintro e w2 ⟨rfl, k2⟩
  have HB2 := Lib.hid (k2.belowN HB1.out (Nat.le_refl _))
  have HR2 := Lib.hid k2.1
  have hs2 := k2.2.size
  clear h2 k2 HB1 HR1
  go_wp2_with fail
  have h3 := qtakesigs_any w.heap.size A.2 w2 (by omega) HR2.out
  rw [← HT.out] at h3
  refine h3.mono ?_
  rintro e w3 ⟨v, rfl, ho, k3⟩
  have HB3 := Lib.hid (k3.belowN HB2.out (Nat.le_refl _))
  have HR3 := Lib.hid k3.1
  have HO3 := Lib.hid (OwnL.base ho (base' := w.heap.size + 1) (fun g hg => by have := (OwnL.lt ho g hg).1; omega))
  clear h3 k3 ho HB2 HR2 HT HA
  go_wp2_with fail
  refine (qend_any w.heap.size T.2 w3 (by omega) HR3.out).mono ?_
  rintro e w4 ⟨rfl, k4⟩
  have HB4 := Lib.hid (k4.belowN HB3.out (Nat.le_refl _))
  have HO4 : Hid (OwnG w4 w.heap.size v T.1) := Lib.hid (OwnL.base (OwnL.kp HO3.out k4.2 (fun g hg => by have := (OwnL.lt HO3.out g hg).1; omega)) (fun g hg => by have := (OwnL.lt HO3.out g hg).1; omega))
  obtain ⟨ao, cap, rfl, -, -, -⟩ := OwnL.form HO4.out
  clear k4 HB3 HR3 HO3
  by_cases h0 : (rEnd T.2).2 = 0
  · have b1 : ((rEnd T.2).2 == 0) = true := beq_iff_eq.2 h0
    have b2 : ((rEnd T.2).2 != 0) = false := by rw [bne, b1]; rfl
    by_cases h16 : 16 < T.1.length
    · have hu : U = ((⟨#[]⟩, []), 3) := by rw [HU.out, if_pos (.inr h16)]
      have h16' : (16 : Int) < (T.1.length : Int) := by omega
      obtain rfl := hu
      go_wp2_with fail
      go_ret3
      exact ⟨_, rfl, ownL_nil _ _, HB4.out⟩
    · have hu : U = ((A.1, T.1), 0) := by rw [HU.out, if_neg (fun h => h.elim (fun h => h h0) h16)]
      have h16' : ¬ (16 : Int) < (T.1.length : Int) := by omega
      obtain rfl := hu
      go_wp2_with fail
      go_ret3
      exact ⟨_, rfl, HO4.out, HB4.out⟩
  · have b1 : ((rEnd T.2).2 == 0) = false := beq_eq_false_iff_ne.2 h0
    have b2 : ((rEnd T.2).2 != 0) = true := by rw [bne, b1]; rfl
    have hu : U = ((⟨#[]⟩, []), 3) := by rw [HU.out, if_pos (.inl h0)]
    obtain rfl := hu
    go_wp2_with fail
    go_ret3
    exact ⟨_, rfl, ownL_nil _ _, HB4.out⟩
end Go.Proofs.YtmejjphliaiamaaGreatDoor
