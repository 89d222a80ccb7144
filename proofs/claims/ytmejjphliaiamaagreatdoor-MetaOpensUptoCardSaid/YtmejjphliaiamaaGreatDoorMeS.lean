import Derived.Test.YtmejjphliaiamaaGreatDoorMeL
import Derived.Test.YtmejjphliaiamaaGreatDoorSgS
set_option linter.unusedVariables false
set_option linter.unusedSimpArgs false
namespace Go.Proofs.YtmejjphliaiamaaGreatDoor
open Go Go.RowKit Go.Lib Go.Sort

/-! ### MetaSeals -/
theorem usP_len (s : ByteArray) : (usP s).1.2.length ≤ 16 := by
  unfold usP
  split
  · exact Nat.zero_le _
  · rename_i h
    exact Nat.le_of_not_lt (fun h2 => h (.inr h2))
theorem sealP_size (body : ByteArray) (L : List SigT) : (sealP body L).1.size ≤ body.size + 3 + sigsZ L := by
  unfold sealP
  split
  · exact Nat.zero_le _
  · unfold wOut
    split
    · exact Nat.zero_le _
    · have h1 := foldP_size L (wNum (pText (⟨#[]⟩, false) body) L.length 1)
      have h2 := wNum_size (pText (⟨#[]⟩, false) body) L.length 1
      have h3 : (pText (⟨#[]⟩, false) body).1.size ≤ body.size + 2 := by
        unfold pText
        show ((wNum (⟨#[]⟩, false) body.size 2).1 ++ body).size ≤ _
        have h4 := wNum_size (⟨#[]⟩, false) body.size 2
        have e : ((⟨#[]⟩ : ByteArray), false).1.size = 0 := rfl
        rw [ByteArray.size_append]
        omega
      show (laySigsP (pText (⟨#[]⟩, false) body) L).1.size ≤ _
      show (L.foldl layP _).1.size ≤ _
      omega
def SlsRel (w0 : World) (i : Value) (wr : World) : Prop := ∃ k : Nat, k ≤ 3 ∧ i = .int .i64 k ∧ Below w0.heap.size w0 wr
theorem three_at {w : World} {q : Nat} {a b c : ByteArray} {t : TypeId} (h : w.heap[q]? = some (.cells #[.string a, .string b, .string c] t (0, 0))) (k : Nat) (hk : k < 3) : ∃ x, (x = a ∨ x = b ∨ x = c) ∧ w.cell? ⟨q, k, none⟩ = some (.string x) := by
  match k, hk with
  | 0, _ => exact ⟨a, .inl rfl, cell_of_blk h 0 (v := .string a) rfl⟩
  | 1, _ => exact ⟨b, .inr (.inl rfl), cell_of_blk h 1 (v := .string b) rfl⟩
  | 2, _ => exact ⟨c, .inr (.inr rfl), cell_of_blk h 2 (v := .string c) rfl⟩

set_option maxRecDepth 100000 in
set_option maxHeartbeats 4000000 in
theorem metaseals_any (body : ByteArray) (ad : Option Addr) (L : List SigT) (c : Nat) (text : ByteArray) (w : World) (hL : SigsM w ad L) (hb : body.size ≤ 10000000) (ht : text.size ≤ 10000000) (hn : L.length ≤ 1000000) (hz : sigsZ L ≤ 10000000) (hx : ∀ x ∈ L, x.1.size ≤ 10000000 ∧ x.2.size ≤ 10000000) :
    Calls Tryz.prog 4 #[.string body, .slice ad L.length c, .string text] w fun e w' => e = .returned (.bool true) ∧ Below w.heap.size w w' := by
  have HL := Lib.hid hL
  have HSl := Lib.hid seals_any
  have HA := Lib.hid (fun W (hW : SigsM W ad L) => seal_any body ad L c W hW hn (by omega))
  have HR := fun W (hW : SigsM W ad L) => rseal_any body ad L c W hW (by omega) hn (fun x h => by have := hx x h; omega)
  rw [rseal_eq] at HR
  have HRs := Lib.hid HR
  have hsz := sealP_size body L
  have hback := fun h => us_back (body := body) (L := L) h
  have hq2 : (sealP body L).2 = 0 ∨ (sealP body L).2 = 1 := by
    unfold sealP
    split
    · exact .inr rfl
    · unfold wOut
      split
      · exact .inr rfl
      · exact .inl rfl
  generalize sealP body L = Q at *
  obtain ⟨S, E⟩ := Q
  dsimp only at *
  have HBk := Lib.hid hback
  have hSS : (S.toList == S.toList) = true := beq_self_eq_true _
  have hEE : (E == E) = true := beq_self_eq_true _
  clear hL HR hback hx
  go_enter Tryz.func4, Tryz.ntmps4
  go_wp2_with fail
  refine (HSl.out w).mono ?_
  rintro e w1 ⟨rfl, hb1⟩
  have HB1 := Lib.hid hb1
  clear hb1 HSl
  go_wp2_with fail
  refine (HA.out w1 (HL.out.below HB1.out)).mono ?_
  rintro e w2 ⟨rfl, hb2⟩
  have HB2 := Lib.hid (HB1.out.trans (hb2.mono HB1.out.size))
  clear hb2 HB1 HA
  go_wp2_with fail
  refine (HRs.out w2 (HL.out.below HB2.out)).mono ?_
  rintro e w3 ⟨rfl, hb3⟩
  have HB3 := Lib.hid (HB2.out.trans (hb3.mono HB2.out.size))
  clear hb3 HB2 HRs
  have hcat : ¬ 9223372036854775807 < S.size + text.size := by omega
  have h4 := HB3.out.alloc HB3.out.size (.cells #[.string S, .string text, .string (S ++ text)] 9)
  have hq4 := blk_new w3 (.cells #[.string S, .string text, .string (S ++ text)] 9)
  have hl4 : w3.heap.size < (w3.alloc (.cells #[.string S, .string text, .string (S ++ text)] 9)).heap.size := by rw [size_alloc]; omega
  go_wp2_with fail
  generalize w3.alloc (.cells #[.string S, .string text, .string (S ++ text)] 9) = w4 at h4 hq4 hl4 ⊢
  have HB4 := Lib.hid h4
  have HQ4 := Lib.hid hq4
  clear h4 hq4 HB3
  go_loopw [51] (fun i wr => SlsRel w4 i wr) (fun i _ => 3 - (intOf i).toNat)
  case atStart => exact ⟨0, Nat.zero_le _, rfl, Below.refl _ _⟩
  case round =>
    obtain ⟨k, hk, rfl, hbr⟩ := hrel
    have HBr := Lib.hid (HB4.out.trans (hbr.mono HB4.out.size))
    have HBs := Lib.hid hbr
    have hqr := blk_later HQ4.out hbr
    clear hbr
    by_cases hlt : k < 3
    case pos =>
      obtain ⟨x, hx, cx⟩ := three_at hqr k hlt
      have hxs : x.size ≤ 100000000 := by
        rcases hx with rfl | rfl | rfl
        · omega
        · omega
        · rw [ByteArray.size_append]; omega
      have hk0 : (0 : Int) ≤ (k : Int) := Int.natCast_nonneg _
      have hk1 : (k : Int) < 3 := by omega
      have HU1 := fun W => unseal_any x W (by omega)
      have HU2 := fun W => runseal_any x W (by omega)
      have hul := usP_len x
      unfold UsPost at HU1 HU2
      generalize usP x = U at HU1 HU2 hul
      obtain ⟨⟨ub, ul⟩, ue⟩ := U
      dsimp only at HU1 HU2 hul
      have H1 := Lib.hid HU1
      have H2 := Lib.hid HU2
      have hub : (ub.toList == ub.toList) = true := beq_self_eq_true _
      have hue : (ue == ue) = true := beq_self_eq_true _
      clear HU1 HU2 hx hqr
      go_wp2_with fail
      refine (H1.out wr).mono ?_
      rintro e w5 ⟨v1, rfl, ho1, hb5⟩
      have HB5 := Lib.hid (HBs.out.trans (hb5.mono HBs.out.size))
      have HBw5 := Lib.hid (HBr.out.trans (hb5.mono HBr.out.size))
      obtain ⟨a1, c1, rfl, hs1⟩ := OwnG.sigs ho1
      have HS1 := Lib.hid hs1
      clear ho1 hb5 hs1 H1 cx
      go_wp2_with fail
      refine (H2.out w5).mono ?_
      rintro e w6 ⟨v2, rfl, ho2, hb6⟩
      have HB6 := Lib.hid (HB5.out.trans (hb6.mono HB5.out.size))
      have HBw6 := Lib.hid (HBw5.out.trans (hb6.mono HBw5.out.size))
      obtain ⟨a2, c2, rfl, hs2⟩ := OwnG.sigs ho2
      have HC := samesigs_any a1 a2 ul ul c1 c2 w6 (by omega) (by omega) (HS1.out.below hb6) hs2
      rw [decide_eq_true rfl] at HC
      have HCs := Lib.hid HC
      clear ho2 hb6 hs2 H2 HC HS1
      go_wp2_with fail
      refine HCs.out.mono ?_
      rintro e w7 ⟨rfl, hb7⟩
      have HB7 := Lib.hid (HB6.out.trans (hb7.mono HB6.out.size))
      clear hb7
      go_wp2_with fail
      refine ⟨⟨k + 1, hlt, rfl, HB7.out⟩, ?_⟩
      show 3 - ((k : Int) + 1).toNat < 3 - (k : Int).toNat
      omega
    case neg =>
      clear hqr
      have hk3 : (k : Int) = 3 := by omega
      rw [hk3]
      clear hk3 hk hlt
      rcases hq2 with rfl | rfl
      · have hus := HBk.out rfl
        have HU1 := fun W => unseal_any S W (by omega)
        unfold UsPost at HU1
        rw [hus] at HU1
        have H1 := Lib.hid HU1
        have hub : (body.toList == body.toList) = true := beq_self_eq_true _
        clear hus HU1
        go_wp2_with fail
        refine (H1.out wr).mono ?_
        rintro e w5 ⟨v1, rfl, ho1, hb5⟩
        have HBw5 := Lib.hid (HBr.out.trans (hb5.mono HBr.out.size))
        obtain ⟨a1, c1, rfl, hs1⟩ := OwnG.sigs ho1
        have HC := samesigs_any a1 ad L L c1 c w5 (by omega) (by omega) hs1 (HL.out.below HBw5.out)
        rw [decide_eq_true rfl] at HC
        have HCs := Lib.hid HC
        clear ho1 hb5 hs1 HC H1
        go_wp2_with fail
        refine HCs.out.mono ?_
        rintro e w7 ⟨rfl, hb7⟩
        have HB7 := Lib.hid (HBw5.out.trans (hb7.mono HBw5.out.size))
        clear hb7
        go_wp2_with fail
        go_ret
        exact ⟨rfl, HB7.out⟩
      · go_wp2_with fail
        go_ret
        exact ⟨rfl, HBr.out⟩
end Go.Proofs.YtmejjphliaiamaaGreatDoor
