import Derived.Test.YtmejjphliaiamaaDoorNoX
import Derived.Test.YtmejjphliaiamaaDoorNoI
set_option linter.unusedVariables false
set_option linter.unusedSimpArgs false
namespace Go.Proofs.YtmejjphliaiamaaDoor
open Go Go.RowKit Go.Lib

/-! ### the law of reading -/
theorem readP_bd (s : ByteArray) : ((readP s).1.2.length ≤ 16 ∧ (readP s).1.1.size ≤ s.size) ∧ ((readP s).2 = 0 ∧ fmtV (readP s).1.1 (readP s).1.2 = (s, 0) ∨ (readP s).2 = 3) := by
  rcases readP_cases s with ⟨h, -⟩ | ⟨t, L, h, hf⟩
  · rw [h]; exact ⟨⟨Nat.zero_le _, Nat.zero_le _⟩, .inr rfl⟩
  · rw [h]
    obtain ⟨hg, hs⟩ := fmtV_ok hf
    refine ⟨⟨((noteG_iff t L).1 hg).1, ?_⟩, .inl ⟨rfl, hf⟩⟩
    show t.size ≤ s.size
    rw [hs, ByteArray.size_append, ByteArray.size_append]; omega

set_option maxRecDepth 100000 in
set_option maxHeartbeats 2000000 in
theorem reads_any (s : ByteArray) (w : World) (hs : s.size ≤ 2097152) (hV : VarsV w) :
    Calls Tryd.prog 5 #[.string s] w fun e w' => e = .returned (.bool true) ∧ Below w.heap.size w w' := by
  have HTe := Lib.hid (tells_any w hV)
  have HP := Lib.hid (fun W hW => read_note s W (by omega) hW)
  have HQ := Lib.hid (fun W => rread_note s W (by omega))
  have HV := Lib.hid hV
  have hbd := readP_bd s
  unfold ReadPost at HP HQ
  generalize readP s = P at HP HQ hbd
  obtain ⟨⟨t, L⟩, pe⟩ := P
  obtain ⟨⟨hl, hz⟩, hc⟩ := hbd
  dsimp only at HP HQ hl hz hc
  clear hV
  go_enter Tryd.func5, Tryd.ntmps5
  go_wp2_with fail
  refine HTe.out.mono ?_
  rintro e w1 ⟨rfl, hb⟩
  have HK1 := Lib.hid hb
  clear hb
  go_wp2_with fail
  refine (HP.out _ (HV.out.below HK1.out)).mono ?_
  rintro e w2 ⟨v, rfl, hO, hb⟩
  have HK2 := Lib.hid (HK1.out.trans (hb.mono HK1.out.size))
  have HO2 := Lib.hid hO
  clear hb hO HK1
  obtain ⟨ad, cap, rfl, -⟩ := OwnG.sigs HO2.out
  go_wp2_with fail
  refine (HQ.out _).mono ?_
  rintro e w3 ⟨v3, rfl, hO, hb⟩
  have hK3 : Below w.heap.size w w3 := (HK2.out.alloc HK2.out.size (.cells #[.string t, .slice ad L.length cap] 33)).trans (hb.mono (by rw [size_alloc]; have := HK2.out.size; omega))
  have hN3 : NtAt w3 w2.heap.size t (.slice ad L.length cap) := blk_later (blk_new _ _) hb
  have hS3 : SigsM w3 ad L := by
    obtain ⟨ad2, cap2, h1, h2⟩ := OwnG.sigs (show OwnG w3 w1.heap.size (.slice ad L.length cap) L from OwnL.below (OwnL.alloc HO2.out _) hb)
    cases h1
    exact h2
  obtain ⟨ad3, cap3, rfl, hS4⟩ := OwnG.sigs hO
  have HK3 := Lib.hid hK3
  have HN3 := Lib.hid hN3
  have HS3 := Lib.hid hS3
  have HS4 := Lib.hid hS4
  have hlt3 := (Array.getElem?_eq_some_iff.1 hN3).1
  clear hb hO hK3 hN3 hS3 hS4 HO2
  have hn4 : NtAt (w3.alloc (.cells #[.string t, .slice ad3 L.length cap3] 33)) w2.heap.size t (.slice ad L.length cap) := blk_alloc HN3.out _
  have hm4 : NtAt (w3.alloc (.cells #[.string t, .slice ad3 L.length cap3] 33)) w3.heap.size t (.slice ad3 L.length cap3) := blk_new _ _
  have HN4 := Lib.hid hn4
  have HK4 := Lib.hid (HK3.out.alloc HK3.out.size (.cells #[.string t, .slice ad3 L.length cap3] 33))
  have hA := (Below.refl w3.heap.size w3).alloc (Nat.le_refl _) (.cells #[.string t, .slice ad3 L.length cap3] 33)
  have HSm := Lib.hid (same_any t t ad ad3 L L cap cap3 (w3.alloc (.cells #[.string t, .slice ad3 L.length cap3] 33)) (by omega) (by omega) (HS3.out.below hA) (HS4.out.below hA))
  rw [decide_eq_true rfl, decide_eq_true rfl] at HSm
  have n0 := cell_of_blk hn4 0 (v := .string t) rfl
  have n1 := cell_of_blk hn4 1 (v := .slice ad L.length cap) rfl
  have m0 := cell_of_blk hm4 0 (v := .string t) rfl
  have m1 := cell_of_blk hm4 1 (v := .slice ad3 L.length cap3) rfl
  have HF := Lib.hid (fun W h1 h2 => format_any t ad L cap W (by omega) (by omega) h1 h2)
  have pe1 : (pe == pe) = true := beq_self_eq_true _
  have pe2 : (pe != pe) = false := by rw [bne, pe1]; rfl
  clear hn4 hm4 hA
  go_wp2_with fail
  refine HSm.out.mono ?_
  rintro e w5 ⟨rfl, hb⟩
  have HN5 := Lib.hid (show NtAt w5 w2.heap.size t (.slice ad L.length cap) from blk_later HN4.out hb)
  have HS5 := Lib.hid ((HS3.out.below ((Below.refl w3.heap.size w3).alloc (Nat.le_refl _) _)).below hb)
  have HK5 := Lib.hid (HK4.out.trans (hb.mono HK4.out.size))
  clear hb n0 n1 m0 m1 HSm
  have n0 := cell_of_blk HN5.out 0 (v := .string t) rfl
  have n1 := cell_of_blk HN5.out 1 (v := .slice ad L.length cap) rfl
  go_wp2_with fail
  refine (HF.out _ HS5.out (HV.out.below HK5.out)).mono ?_
  rintro e w6 ⟨rfl, hb⟩
  have HK6 := Lib.hid (HK5.out.trans (hb.mono HK5.out.size))
  clear hb n0 n1
  rcases hc with ⟨rfl, hf⟩ | rfl
  · rw [hf]
    have hq1b : (s.toList == s.toList) = true := beq_self_eq_true _
    clear hf
    go_wp2_with fail
    go_ret
    exact ⟨rfl, HK6.out⟩
  · generalize fmtV t L = q
    go_wp2_with fail
    go_ret
    exact ⟨rfl, HK6.out⟩
end Go.Proofs.YtmejjphliaiamaaDoor
