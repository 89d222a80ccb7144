import Derived.Test.YtobepddifflpdaaDoorTjC
import Derived.Test.YtobepddifflpdaaDoorTjB
set_option linter.unusedVariables false
namespace Go.Proofs.YtobepddifflpdaaDoor
open Go Go.RowKit Go.Lib Go.Sort Go.Maps Go.WideMaps

theorem PS.nil {w : World} {v : Value} (h : PS w v []) : ∃ ao cap, v = .slice ao 0 cap := by
  obtain ⟨ao, cap, h1, _⟩ := h
  exact ⟨ao, cap, h1⟩
theorem PS.form {w : World} {v : Value} {l : List ByteArray} (h : PS w v l) : ∃ ao cap, v = .slice ao l.length cap := by
  obtain ⟨ao, cap, h1, _⟩ := h
  exact ⟨ao, cap, h1⟩
def conL (k n : Nat) : List ByteArray := if k = 0 then [] else partG (rootL leafK) k 0 n true
def OkPost (w : World) (e : Ending) (w' : World) : Prop := e = .returned (.int .i64 0) ∧ Below w.heap.size w w'

set_option maxRecDepth 100000 in
set_option maxHeartbeats 1000000 in
theorem consistent_any (k n : Nat) (v : Value) (w : World) (hk : k ≤ n) (hn : n ≤ 1000) (hv : PS w v (conL k n)) :
    Calls Tryd.prog 24 #[.int .i64 k, .int .i64 n, v, .string (rootL leafK 0 k), .string (rootL leafK 0 n)] w (OkPost w) := by
  have hself : ((rootL leafK 0 n).toList == (rootL leafK 0 n).toList) = true := beq_self_eq_true _
  by_cases hkn : k = n
  · subst hkn
    have hL : conL k k = [] := by
      unfold conL
      split
      · rfl
      · rw [partG_end _ _ _ _ _ (Or.inl (Nat.le_refl _))]; rfl
    rw [hL] at hv
    obtain ⟨ao, cap, rfl⟩ := hv.nil
    by_cases h0 : k = 0
    · subst h0
      go_enter Tryd.func24, Tryd.ntmps24
      go_wp2_with fail
      go_ret
      exact ⟨rfl, Below.refl _ _⟩
    · have hk0 : ¬ (k : Int) = 0 := by omega
      go_enter Tryd.func24, Tryd.ntmps24
      go_wp2_with fail
      go_ret
      exact ⟨rfl, Below.refl _ _⟩
  · by_cases h0 : k = 0
    · subst h0
      have hL : conL 0 n = [] := rfl
      rw [hL] at hv
      obtain ⟨ao, cap, rfl⟩ := hv.nil
      have hs := refsum_any none 0 0 (fun _ => ⟨#[]⟩) w (fun i hi => absurd hi (by omega)) (by decide) (by rw [catN_zero]; decide)
      rw [catN_zero] at hs
      have hn0 : (0 : Int) < (n : Int) := by omega
      rw [rootL_zero]
      obtain ⟨E, hE⟩ : ∃ E, E = shaB ⟨#[]⟩ := ⟨_, rfl⟩
      rw [← hE] at hs ⊢
      have hself2 : (E.toList == E.toList) = true := beq_self_eq_true _
      clear hE
      cases hq : (E.toList == (rootL leafK 0 n).toList) with
      | true =>
        go_enter Tryd.func24, Tryd.ntmps24
        go_wp2_with fail
        refine hs.mono ?_
        rintro e w1 ⟨rfl, hb⟩
        have HB := Lib.hid hb
        clear hb hs
        go_wp2_with fail
        go_ret
        exact ⟨rfl, HB.out⟩
      | false =>
        go_enter Tryd.func24, Tryd.ntmps24
        go_wp2_with fail
        refine hs.mono ?_
        rintro e w1 ⟨rfl, hb⟩
        have HB := Lib.hid hb
        clear hb hs
        go_wp2_with fail
        go_ret
        exact ⟨rfl, HB.out⟩
    · have hL : conL k n = partG (rootL leafK) k 0 n true := if_neg h0
      rw [hL] at hv
      have hlen := partG_len (rootL leafK) n k 0 true (by omega)
      have hne : (partG (rootL leafK) k 0 n true).length ≠ 0 := by
        rw [partG_two _ _ _ _ _ (by omega)]
        split <;> simp
      generalize hG : partG (rootL leafK) k 0 n true = G at *
      obtain ⟨ao, cap, rfl⟩ := hv.form
      have hb := both_any leafK (fun i => by rw [leafK_size]; omega) n k 0 true (rootL leafK 0 k) [] (.slice ao G.length cap) w (by omega) hk (by omega) (fun _ => rfl) (by simp; omega) (by rw [hG, List.append_nil]; exact hv)
      have hself2 : ((rootL leafK 0 k).toList == (rootL leafK 0 k).toList) = true := beq_self_eq_true _
      have hneg : ¬ (k : Int) < 0 := by omega
      have hk0 : (0 : Int) < (k : Int) := by omega
      have hk1 : (k : Int) < (n : Int) := by omega
      have hk2 : ¬ (k : Int) = 0 := by omega
      clear hG hL hv
      generalize G.length = N at hb hlen hne ⊢
      have hlz : ¬ (N : Int) = 0 := by omega
      go_enter Tryd.func24, Tryd.ntmps24
      go_wp2_with fail
      refine hb.mono ?_
      rintro e w1 ⟨v1, rfl, hp1, hb1⟩
      obtain ⟨ao1, cap1, rfl⟩ := hp1.nil
      have HB := Lib.hid hb1
      clear hb1 hp1 hb
      go_wp2_with fail
      go_ret
      exact ⟨rfl, HB.out⟩

set_option maxRecDepth 100000 in
set_option maxHeartbeats 2000000 in
theorem older_any (z y : Int) (w : World) (hT : Tabs w) (hz0 : 0 ≤ z) (hz1 : z ≤ 255) (hy0 : 0 ≤ y) (hy1 : y ≤ 255) :
    Calls Tryd.prog 5 #[.int .u8 z, .int .u8 y] w fun e w' => e = .returned (.bool true) ∧ Below w.heap.size w w' := by
  have HT := Lib.hid hT
  clear hT
  go_enter Tryd.func5, Tryd.ntmps5
  go_wp2_with fail
  refine (reads_any w HT.out).mono ?_
  rintro e w1 ⟨rfl, hb1⟩
  have HB1 := Lib.hid hb1
  clear hb1
  obtain ⟨k, hk⟩ : ∃ k : Nat, z % 60 = (k : Int) := ⟨(z % 60).toNat, by omega⟩
  have hk60 : k ≤ 59 := by omega
  obtain ⟨d, hd⟩ : ∃ d : Nat, y % 40 = (d : Int) := ⟨(y % 40).toNat, by omega⟩
  have hd40 : d ≤ 39 := by omega
  obtain ⟨n, hn⟩ : ∃ n, n = k + d := ⟨_, rfl⟩
  have hkd : (k : Int) + (d : Int) = (n : Int) := by omega
  have hkn : k ≤ n := by omega
  have hn99 : n ≤ 99 := by omega
  clear hn
  go_wp2_with fail
  refine (leaves_any n w1 (by omega)).mono ?_
  rintro e w2 ⟨v, rfl, ho2, hb2⟩
  obtain ⟨ao, nn, cp, rfl⟩ : ∃ ao n c, v = .slice ao n c := by obtain ⟨ao, c, h, -⟩ := OwnL.form ho2; exact ⟨ao, _, c, h⟩
  have hnn : nn = n := by
    obtain ⟨ao', c, h, -⟩ := OwnL.form ho2
    injection h with _ e2 _
    rw [e2]; simp
  subst hnn
  have hF : FilesAt (w2.alloc (.cells #[.slice ao nn cp, .string ⟨#[]⟩, .string ⟨#[]⟩, .slice none 0 0] 42)) w2.heap.size (.slice ao nn cp) nn leafK ⟨#[]⟩ ⟨#[]⟩ (.slice none 0 0) [] := files_new ho2 (by have := HT.out.size; have := HB1.out.size; omega) hb2.size _ _
  have hb2' : Below w.heap.size w (w2.alloc (.cells #[.slice ao nn cp, .string ⟨#[]⟩, .string ⟨#[]⟩, .slice none 0 0] 42)) := (HB1.out.trans (hb2.mono HB1.out.size)).alloc (by have := HB1.out.size; have := hb2.size; omega) _
  have hsz2 : w.heap.size ≤ w2.heap.size := by have := HB1.out.size; have := hb2.size; omega
  have HS2 := Lib.hid (show St w2.heap.size (.slice ao nn cp) nn ⟨#[]⟩ ⟨#[]⟩ w _ (.slice none 0 0, []) from ⟨hF, HT.out.below hb2', hb2', fun g hg => hg.elim (fun h => by omega) (fun h => by cases h)⟩)
  have hcap : nn ≤ cp ∧ cp ≤ 9223372036854775807 := by
    obtain ⟨ao', c', h, h1, h2, -⟩ := hF.hs
    injection h with _ _ e3
    subst e3
    exact ⟨h1, h2⟩
  clear hF hb2 ho2 hb2' HB1
  go_wp2_with fail
  generalize w2.alloc (.cells #[.slice ao nn cp, .string ⟨#[]⟩, .string ⟨#[]⟩, .slice none 0 0] 42) = w3 at HS2 ⊢
  generalize w2.heap.size = fb at HS2 ⊢
  generalize hs0 : ((Value.slice none 0 0, []) : Value × List ByteArray) = s0 at HS2
  have hl0 : s0.2.length ≤ 0 := by rw [← hs0]; exact Nat.le_refl _
  clear hs0
  refine (froot_any fb _ nn k ⟨#[]⟩ ⟨#[]⟩ (by omega) w w3 s0 HS2.out hkn (by omega)).mono ?_
  rintro e w4 ⟨t, e1, s1, rfl, hO, ht, -⟩
  obtain rfl := out_zero hkn hO
  obtain rfl := ht rfl
  have HS3 := Lib.hid (HS2.out.out hO)
  obtain ⟨n1, hl1, hc1, -⟩ := asked_of_out hO
  have hl1' : s1.2.length ≤ 200 := by rw [hl1, List.length_append]; omega
  clear hO ht hl1 hc1 HS2
  have hself : ((rootL leafK 0 k).toList == (rootL leafK 0 k).toList) = true := beq_self_eq_true _
  go_wp2_with fail
  refine (refroot_hash ao nn cp k leafK w4 (by omega) hkn HS3.out.hs).mono ?_
  rintro e w5 ⟨rfl, hb5⟩
  have HS5 := Lib.hid (HS3.out.below hb5)
  clear hb5 HS3
  go_wp2_with fail
  refine (froot_any fb _ nn nn ⟨#[]⟩ ⟨#[]⟩ (by omega) w w5 s1 HS5.out (Nat.le_refl _) (by omega)).mono ?_
  rintro e w6 ⟨t, e6, s6, rfl, hO, ht, -⟩
  obtain rfl := out_zero (Nat.le_refl _) hO
  obtain rfl := ht (by first | trivial | rfl)
  have HS6 := Lib.hid (HS5.out.out hO)
  obtain ⟨n1, hl1, hc1, -⟩ := asked_of_out hO
  have hl6' : s6.2.length ≤ 400 := by rw [hl1, List.length_append]; omega
  clear hO ht hl1 hc1 HS5
  go_wp2_with fail
  refine (fcons_any fb _ nn nn ⟨#[]⟩ ⟨#[]⟩ (by omega) k w w6 s6 HS6.out (Nat.le_refl _) (by omega)).mono ?_
  rintro e w7 ⟨v7, er7, e7, s7, l7, rfl, hO, hp7, hok7, hno7⟩
  obtain rfl := out_zero (Nat.le_refl _) hO
  have HS7 := Lib.hid (HS6.out.out hO)
  obtain ⟨rfl, hl7, -⟩ := hok7 ⟨by omega, by omega⟩
  have HP7 : Hid (PS w7 v7 (conL k nn)) := Lib.hid (by
    obtain ⟨b, ho, -⟩ := hp7
    have := PS.of_own ho
    rw [hl7 rfl] at this
    unfold conL
    by_cases h0 : k = 0
    · subst h0; exact this
    · rw [if_neg h0]; rw [if_neg (by omega), Int.toNat_natCast] at this; exact this)
  clear hO hp7 hok7 hno7 hl7 HS6
  go_wp2_with fail
  refine (consistent_any k nn v7 w7 hkn (by omega) HP7.out).mono ?_
  rintro e w8 ⟨rfl, hb8⟩
  have HS8 := Lib.hid (HS7.out.below hb8)
  clear hb8 HS7 HP7
  go_wp2_with fail
  go_ret
  exact ⟨rfl, HS8.out.bl⟩
end Go.Proofs.YtobepddifflpdaaDoor
