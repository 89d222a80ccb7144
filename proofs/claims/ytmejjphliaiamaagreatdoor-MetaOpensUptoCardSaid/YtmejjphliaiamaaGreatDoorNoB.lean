import Derived.Test.YtmejjphliaiamaaGreatDoorNoP
import Derived.Test.YtmejjphliaiamaaGreatDoorSl
import Derived.Deep.RegionHeld3
set_option linter.unusedVariables false
set_option linter.unusedSimpArgs false
namespace Go.Proofs.YtmejjphliaiamaaGreatDoor
open Go Go.RowKit Go.Lib

/-! ### a checkpoint in memory -/
def CpAt (w : World) (b : Nat) (o : ByteArray) (n : Int) (r : ByteArray) : Prop := w.heap[b]? = some (.cells #[.string o, .int .i64 n, .string r] 28 (0, 0))
def cpVal (o : ByteArray) (n : Int) (r : ByteArray) : Value := .agg #[.string o, .int .i64 n, .string r]
def Cp3 (w : World) (b : Nat) (o : ByteArray) (n : Int) (r : ByteArray) : Prop := w.cell? ⟨b, 0, none⟩ = some (.string o) ∧ w.cell? ⟨b, 1, none⟩ = some (.int .i64 n) ∧ w.cell? ⟨b, 2, none⟩ = some (.string r)
theorem CpAt.cells {w : World} {b : Nat} {o : ByteArray} {n : Int} {r : ByteArray} (h : CpAt w b o n r) : Cp3 w b o n r := ⟨cell_of_blk h 0 rfl, cell_of_blk h 1 rfl, cell_of_blk h 2 rfl⟩
theorem Cp3.later {w0 w : World} {b : Nat} {o : ByteArray} {n : Int} {r : ByteArray} (h : Cp3 w0 b o n r) (k : Below w0.heap.size w0 w) : Below w0.heap.size w0 w ∧ w.cell? ⟨b, 0, none⟩ = some (.string o) ∧ w.cell? ⟨b, 1, none⟩ = some (.int .i64 n) ∧ w.cell? ⟨b, 2, none⟩ = some (.string r) :=
  ⟨k, (k.cell (cell_lt h.1)).trans h.1, (k.cell (cell_lt h.2.1)).trans h.2.1, (k.cell (cell_lt h.2.2)).trans h.2.2⟩
theorem Cp3.call {w0 wA wB : World} {X : Prop} {b : Nat} {o : ByteArray} {n : Int} {r : ByteArray} (h : Cp3 w0 b o n r) (k : Below w0.heap.size w0 wA ∧ X) (kb : Below wA.heap.size wA wB) :
    Below w0.heap.size w0 wB ∧ wB.cell? ⟨b, 0, none⟩ = some (.string o) ∧ wB.cell? ⟨b, 1, none⟩ = some (.int .i64 n) ∧ wB.cell? ⟨b, 2, none⟩ = some (.string r) := h.later (k.1.trans (kb.mono k.1.size))
theorem Cp3.alc {w0 wA : World} {X : Prop} {b : Nat} {x : Obj} {o : ByteArray} {n : Int} {r : ByteArray} (h : Cp3 w0 b o n r) (k : Below w0.heap.size w0 wA ∧ X) :
    Below w0.heap.size w0 (wA.alloc x) ∧ (wA.alloc x).cell? ⟨b, 0, none⟩ = some (.string o) ∧ (wA.alloc x).cell? ⟨b, 1, none⟩ = some (.int .i64 n) ∧ (wA.alloc x).cell? ⟨b, 2, none⟩ = some (.string r) := h.later (k.1.alloc k.1.size x)
theorem cells5 (w : World) (a b c d e : ByteArray) (t : TypeId) : ∀ (j : Nat) x, [a, b, c, d, e][j]? = some x → (w.alloc (.cells #[.string a, .string b, .string c, .string d, .string e] t)).cell? ⟨w.heap.size, 0 + j, none⟩ = some (.string x) := by
  intro j x hx
  rw [Nat.zero_add]
  refine cell_of_blk (blk_new w _) j ?_
  match j, hx with
  | 0, hx => simpa using hx
  | 1, hx => simpa using hx
  | 2, hx => simpa using hx
  | 3, hx => simpa using hx
  | 4, hx => simpa using hx
theorem held_nv {w0 wA : World} {X : Prop} (h : Below w0.heap.size w0 wA ∧ X) (hV : VarsP w0) : VarsP wA := hV.below h.1

theorem join5B (o : ByteArray) (n : Int) (r : ByteArray) : (⟨(Lib.join [headW.data.toList, o.data.toList, (itoaB n).data.toList, (hexB r).data.toList, []] [10]).toArray⟩ : ByteArray) = cpT o n r := by
  apply ba_ext
  rw [← join5]
  rfl
theorem cpV_bad {o : ByteArray} {n : Int} {r : ByteArray} (h : cpGood o n r = false) : cpV o n r = (⟨#[]⟩, 1) := by unfold cpV; rw [h]; rfl
theorem cpV_good {o : ByteArray} {n : Int} {r : ByteArray} (h : cpGood o n r = true) : cpV o n r = (cpT o n r, 0) := by unfold cpV; rw [if_pos h]

set_option maxRecDepth 100000 in
set_option maxHeartbeats 2000000 in
theorem text_anyP (o : ByteArray) (n : Int) (r : ByteArray) (w : World) (ho : o.size ≤ 9223372036854775807) (hr : r.size ≤ 9223372036854775807) (hV : VarsP w) :
    Calls Tryz.prog 79 #[cpVal o n r] w fun e w' => e = .returned (.tuple #[.string (cpV o n r).1, .int .i64 (cpV o n r).2]) ∧ Below w.heap.size w w' := by
  have HO := Lib.hid (fun W => origin_any o W ho)
  have HV := Lib.hid hV
  obtain ⟨g, hg⟩ : ∃ g, g = origG o := ⟨_, rfl⟩
  rw [← hg] at HO
  obtain ⟨res, hres⟩ : ∃ res, res = cpV o n r := ⟨_, rfl⟩
  rw [← hres]
  have HR := Lib.hid hres
  have HG := Lib.hid hg
  clear hV hg hres
  unfold cpVal
  go_enter Tryz.func79, Tryz.ntmps79
  go_wp2_with fail
  refine (HO.out _).mono ?_
  rintro e w1 ⟨rfl, hb⟩
  have A1 : CpAt w1 w.heap.size o n r := blk_later (blk_new _ _) hb
  have HK := Lib.hid (((Below.refl w.heap.size w).alloc (Nat.le_refl _) (.cells #[.string o, .int .i64 n, .string r] 28)).trans (hb.mono (by rw [size_alloc]; omega)))
  have HC := Lib.hid A1.cells
  obtain ⟨c0, c1, c2⟩ := A1.cells
  clear hb A1 HO
  by_cases hgood : cpGood o n r = true
  · have hx := hgood
    unfold cpGood at hx
    simp only [Bool.and_eq_true, decide_eq_true_eq] at hx
    obtain ⟨g1, g2, g3, g4⟩ := hx
    have hgt : g = true := HG.out.trans g1
    subst hgt
    have g4' : (r.size : Int) = 32 := by omega
    have n1 : ¬ n < 0 := by omega
    have n2 : ¬ (1024 : Int) < n := by omega
    have n3 : (r.size : Int) == 32 := by rw [g4']; rfl
    have hVw := HV.out.below HK.out
    have HVw := Lib.hid hVw
    have hszT := cpT_size o n r hgood
    have HRG := Lib.hid (HR.out.trans (cpV_good hgood))
    clear hgood g1 g4 hVw
    go_wp2_with fail
    first
    | go_region_held3 (fun W => Below w1.heap.size w1 W ∧ W.cell? ⟨w.heap.size, 0, none⟩ = some (.string o) ∧ W.cell? ⟨w.heap.size, 1, none⟩ = some (.int .i64 n) ∧ W.cell? ⟨w.heap.size, 2, none⟩ = some (.string r))
        (first
          | assumption
          | exact HC.out.later (below_drew (Below.refl _ _))
          | exact HC.out.call (by assumption) hbx
          | exact HC.out.alc (by assumption))
        (first
          | (go_at_call 83; refine (itoa_anyP n _ (by omega) (by omega) (held_nv (by assumption) HVw.out)).mono ?_; rintro e wx ⟨rfl, hbx⟩)
          | (go_at_call 132; refine (hex_any r _ (by omega)).mono ?_; rintro e wx ⟨rfl, hbx⟩)
          | (go_at_call 131; refine (Tryz.strings_Join _ 0 5 [headW, o, itoaB n, hexB r, ⟨#[]⟩] ⟨#[10]⟩ _ (cells5 _ _ _ _ _ _ _) (by simp) (by simp) (by simp) (by rw [show (⟨#[10]⟩ : ByteArray).data.toList = [10] from rfl, join5, Array.length_toList]; exact Nat.le_trans hszT (by decide))).mono ?_; rintro e wx ⟨rfl, hbx⟩))
    | fail "region"
    all_goals
      have HGX := Lib.hid (And.left ‹Below w1.heap.size w1 _ ∧ _›)
      go_wp2_with fail
      go_ret2
      rw [HRG.out, join5B]
      exact ⟨rfl, HK.out.trans (HGX.out.mono HK.out.size)⟩
  · have hbad := HR.out.trans (cpV_bad (by simpa using hgood))
    have HB := Lib.hid hbad
    clear hbad
    cases g with
    | false =>
      go_wp2_with fail
      go_ret2
      rw [HB.out]
      exact ⟨rfl, HK.out⟩
    | true =>
      by_cases n1 : n < 0
      · go_wp2_with fail
        go_ret2
        rw [HB.out]
        exact ⟨rfl, HK.out⟩
      · by_cases n2 : (1024 : Int) < n
        · go_wp2_with fail
          go_ret2
          rw [HB.out]
          exact ⟨rfl, HK.out⟩
        · have n3 : ¬ (r.size : Int) = 32 := by
            intro h
            apply hgood
            unfold cpGood
            rw [← HG.out, decide_eq_true (show (0 : Int) ≤ n by omega), decide_eq_true (show n ≤ 1024 by omega), decide_eq_true (show r.size = 32 by omega)]
            rfl
          have n4 : ((r.size : Int) == 32) = false := beq_eq_false_iff_ne.2 n3
          have n5 : ((r.size : Int) != 32) = true := bne_iff_ne.2 n3
          go_wp2_with fail
          go_ret2
          rw [HB.out]
          exact ⟨rfl, HK.out⟩

/-! ### the document's -/
theorem hexB_size (r : ByteArray) : (hexB r).size = 2 * r.size := by
  have h7 := hexL_length r.data.toList
  have h8 : r.data.toList.length = r.size := Array.length_toList
  show (hexL r.data.toList).length = _
  omega
def ROrig (s : ByteArray) (w : World) (i : Value) (wr : World) : Prop := ∃ k : Nat, k ≤ s.size ∧ i = .int .i64 k ∧ s.data.toList.all okC = (s.data.toList.drop k).all okC ∧ w = wr
theorem drop_getD (s : ByteArray) (n : Nat) (h : n < s.size) : s.data.toList.drop n = s.data.toList.getD n 0 :: s.data.toList.drop (n + 1) := by
  have hl : n < s.data.toList.length := h
  rw [List.drop_eq_getElem_cons hl, List.getD_eq_getElem?_getD, List.getElem?_eq_getElem hl]
  rfl
set_option maxRecDepth 100000 in
set_option maxHeartbeats 1000000 in
theorem rorigin_any (s : ByteArray) (w : World) (hs : s.size ≤ 9223372036854775807) :
    Calls Tryz.prog 82 #[.string s] w fun e w' => e = .returned (.bool (origG s)) ∧ w = w' := by
  obtain ⟨g, hg⟩ : ∃ g, g = origG s := ⟨_, rfl⟩
  rw [← hg]
  have HG := Lib.hid hg
  clear hg
  go_enter Tryz.func82, Tryz.ntmps82
  go_wp2_with fail
  go_loopw [3] (fun i wr => ROrig s w i wr) (fun i _ => s.size - (intOf i).toNat)
  case atStart => exact ⟨0, Nat.zero_le _, rfl, rfl, rfl⟩
  case round =>
    obtain ⟨k, hk, rfl, hall, rfl⟩ := hrel
    have HA := Lib.hid hall
    clear hall
    by_cases hlt : k < s.size
    · have hix := fun W => idx_str s k hlt W
      have hdr := drop_getD s k hlt
      have hc8 := (s.data.toList.getD k 0).toNat_lt
      have hal : (s.data.toList.drop k).all okC = (okC (s.data.toList.getD k 0) && (s.data.toList.drop (k + 1)).all okC) := by rw [hdr]; rfl
      generalize s.data.toList.getD k 0 = c at hix hc8 hal
      have HL := Lib.hid (HA.out.trans hal)
      clear hdr hal
      have hk0 : (0 : Int) ≤ (k : Int) := Int.natCast_nonneg _
      have hk1 : (k : Int) < (s.size : Int) := by omega
      by_cases h1 : (c.toNat : Int) < 33
      · have hgf : g = false := by
          rw [HG.out]
          unfold origG
          rw [HL.out, show okC c = false by unfold okC; rw [decide_eq_false (by omega)]; rfl]
          simp
        have HF := Lib.hid hgf
        clear hgf
        go_wp2_with fail
        go_ret
        rw [HF.out]
        exact ⟨rfl, rfl⟩
      · by_cases h2 : (126 : Int) < (c.toNat : Int)
        · have hgf : g = false := by
            rw [HG.out]
            unfold origG
            rw [HL.out, show okC c = false by unfold okC; rw [decide_eq_false (show ¬ c.toNat ≤ 126 by omega)]; simp]
            simp
          have HF := Lib.hid hgf
          clear hgf
          go_wp2_with fail
          go_ret
          rw [HF.out]
          exact ⟨rfl, rfl⟩
        · have hgf := HL.out
          rw [show okC c = true by unfold okC; rw [decide_eq_true (show 33 ≤ c.toNat by omega), decide_eq_true (show c.toNat ≤ 126 by omega)]; rfl, Bool.true_and] at hgf
          have HF := Lib.hid hgf
          clear hgf
          go_wp2_with fail
          refine ⟨⟨k + 1, hlt, rfl, HF.out, rfl⟩, ?_⟩
          show s.size - ((k : Int) + 1).toNat < s.size - (k : Int).toNat
          omega
    · obtain rfl : k = s.size := by omega
      have hgf : g = (decide (1 ≤ s.size) && decide (s.size ≤ 64)) := by
        rw [HG.out]
        unfold origG
        rw [HA.out, show s.size = s.data.toList.length from Array.length_toList.symm, List.drop_length]
        simp
      have HF := Lib.hid hgf
      clear hgf
      by_cases h1 : (1 : Int) ≤ (s.size : Int)
      · by_cases h2 : (s.size : Int) ≤ 64
        · have hf : g = true := by rw [HF.out, decide_eq_true (by omega), decide_eq_true (by omega)]; rfl
          have HF2 := Lib.hid hf
          clear hf
          go_wp2_with fail
          go_ret
          rw [HF2.out]
          exact ⟨rfl, rfl⟩
        · have hf : g = false := by rw [HF.out, decide_eq_false (show ¬ s.size ≤ 64 by omega), Bool.and_false]
          have HF2 := Lib.hid hf
          clear hf
          go_wp2_with fail
          go_ret
          rw [HF2.out]
          exact ⟨rfl, rfl⟩
      · have hf : g = false := by rw [HF.out, decide_eq_false (show ¬ 1 ≤ s.size by omega), Bool.false_and]
        have HF2 := Lib.hid hf
        clear hf
        go_wp2_with fail
        go_ret
        rw [HF2.out]
        exact ⟨rfl, rfl⟩

theorem head_nl : (⟨#[111, 115, 116, 108, 101, 114, 32, 99, 104, 101, 99, 107, 112, 111, 105, 110, 116, 10]⟩ : ByteArray) = headW ++ nlB := by decide
set_option maxRecDepth 100000 in
set_option maxHeartbeats 2000000 in
theorem rtext_anyP (o : ByteArray) (n : Int) (r : ByteArray) (w : World) (ho : o.size ≤ 9223372036854775807) (hr : r.size ≤ 9223372036854775807) (hV : VarsP w) :
    Calls Tryz.prog 30 #[cpVal o n r] w fun e w' => e = .returned (.tuple #[.string (cpV o n r).1, .int .i64 (cpV o n r).2]) ∧ Below w.heap.size w w' := by
  have HO := Lib.hid (fun W => rorigin_any o W ho)
  have HV := Lib.hid hV
  obtain ⟨g, hg⟩ : ∃ g, g = origG o := ⟨_, rfl⟩
  rw [← hg] at HO
  obtain ⟨res, hres⟩ : ∃ res, res = cpV o n r := ⟨_, rfl⟩
  rw [← hres]
  have HR := Lib.hid hres
  have HG := Lib.hid hg
  clear hV hg hres
  unfold cpVal
  go_enter Tryz.func30, Tryz.ntmps30
  go_wp2_with fail
  refine (HO.out _).mono ?_
  rintro e w1 ⟨rfl, hw1⟩
  have hb : Below (w.alloc (.cells #[.string o, .int .i64 n, .string r] 28)).heap.size (w.alloc (.cells #[.string o, .int .i64 n, .string r] 28)) w1 := hw1 ▸ Below.refl _ _
  clear hw1
  have A1 : CpAt w1 w.heap.size o n r := blk_later (blk_new _ _) hb
  have HK := Lib.hid (((Below.refl w.heap.size w).alloc (Nat.le_refl _) (.cells #[.string o, .int .i64 n, .string r] 28)).trans (hb.mono (by rw [size_alloc]; omega)))
  have HC := Lib.hid A1.cells
  obtain ⟨c0, c1, c2⟩ := A1.cells
  clear hb A1 HO
  by_cases hgood : cpGood o n r = true
  · have hx := hgood
    unfold cpGood at hx
    simp only [Bool.and_eq_true, decide_eq_true_eq] at hx
    obtain ⟨g1, g2, g3, g4⟩ := hx
    have hgt : g = true := HG.out.trans g1
    subst hgt
    have g4' : (r.size : Int) = 32 := by omega
    have n1 : ¬ n < 0 := by omega
    have n2 : ¬ (1024 : Int) < n := by omega
    have n3 : (r.size : Int) == 32 := by rw [g4']; rfl
    have hVw := HV.out.below HK.out
    have HVw := Lib.hid hVw
    have hszT := cpT_size o n r hgood
    have HRG := Lib.hid (HR.out.trans (cpV_good hgood))
    have ho64 : o.size ≤ 64 := by unfold origG at g1; simp only [Bool.and_eq_true, decide_eq_true_eq] at g1; exact g1.1.2
    have hi4 : (itoaB n).size ≤ 4 := (itoa_small n g2 g3).1
    have hh64 : (hexB r).size = 64 := by rw [hexB_size, g4]
    clear hgood g1 g4 hVw
    have m1 : ¬ 9223372036854775807 < 18 + o.size := by omega
    have m2 : ¬ 9223372036854775807 < 18 + o.size + 1 := by omega
    have m3 : ¬ 9223372036854775807 < 18 + o.size + 1 + (itoaB n).size := by omega
    have m4 : ¬ 9223372036854775807 < 18 + o.size + 1 + (itoaB n).size + 1 := by omega
    have m5 : ¬ 9223372036854775807 < 18 + o.size + 1 + (itoaB n).size + 1 + (hexB r).size := by omega
    have m6 : ¬ 9223372036854775807 < 18 + o.size + 1 + (itoaB n).size + 1 + (hexB r).size + 1 := by omega
    clear hh64 hi4 ho64
    go_wp2_with fail
    first
    | go_region_held3 (fun W => Below w1.heap.size w1 W ∧ W.cell? ⟨w.heap.size, 0, none⟩ = some (.string o) ∧ W.cell? ⟨w.heap.size, 1, none⟩ = some (.int .i64 n) ∧ W.cell? ⟨w.heap.size, 2, none⟩ = some (.string r))
        (first
          | assumption
          | exact HC.out.later (below_drew (Below.refl _ _))
          | exact HC.out.call (by assumption) hbx
          | exact HC.out.alc (by assumption))
        (first
          | (go_at_call 83; refine (itoa_anyP n _ (by omega) (by omega) (held_nv (by assumption) HVw.out)).mono ?_; rintro e wx ⟨rfl, hbx⟩)
          | (go_at_call 84; refine (rhex_any r _ (by omega)).mono ?_; rintro e wx ⟨rfl, hbx⟩))
    | fail "region"
    all_goals
      have HGX := Lib.hid (And.left ‹Below w1.heap.size w1 _ ∧ _›)
      go_wp2_with fail
      go_ret2
      rw [HRG.out]
      refine ⟨?_, HK.out.trans (HGX.out.mono HK.out.size)⟩
      show _ = Ending.returned (.tuple #[.string (cpT o n r), .int .i64 0])
      unfold cpT
      rw [← head_nl]
      rfl
  · have hbad := HR.out.trans (cpV_bad (by simpa using hgood))
    have HB := Lib.hid hbad
    clear hbad
    cases g with
    | false =>
      go_wp2_with fail
      go_ret2
      rw [HB.out]
      exact ⟨rfl, HK.out⟩
    | true =>
      by_cases n1 : n < 0
      · go_wp2_with fail
        go_ret2
        rw [HB.out]
        exact ⟨rfl, HK.out⟩
      · by_cases n2 : (1024 : Int) < n
        · go_wp2_with fail
          go_ret2
          rw [HB.out]
          exact ⟨rfl, HK.out⟩
        · have n3 : ¬ (r.size : Int) = 32 := by
            intro h
            apply hgood
            unfold cpGood
            rw [← HG.out, decide_eq_true (show (0 : Int) ≤ n by omega), decide_eq_true (show n ≤ 1024 by omega), decide_eq_true (show r.size = 32 by omega)]
            rfl
          have n4 : ((r.size : Int) == 32) = false := beq_eq_false_iff_ne.2 n3
          have n5 : ((r.size : Int) != 32) = true := bne_iff_ne.2 n3
          go_wp2_with fail
          go_ret2
          rw [HB.out]
          exact ⟨rfl, HK.out⟩
theorem text_any (o : ByteArray) (n : Int) (r : ByteArray) (w : World) (ho : o.size ≤ 9223372036854775807) (hr : r.size ≤ 9223372036854775807) (hV : VarsV w) :
    Calls Tryz.prog 79 #[cpVal o n r] w fun e w' => e = .returned (.tuple #[.string (cpV o n r).1, .int .i64 (cpV o n r).2]) ∧ Below w.heap.size w w' := text_anyP o n r w ho hr hV.p
theorem rtext_any (o : ByteArray) (n : Int) (r : ByteArray) (w : World) (ho : o.size ≤ 9223372036854775807) (hr : r.size ≤ 9223372036854775807) (hV : VarsV w) :
    Calls Tryz.prog 30 #[cpVal o n r] w fun e w' => e = .returned (.tuple #[.string (cpV o n r).1, .int .i64 (cpV o n r).2]) ∧ Below w.heap.size w w' := rtext_anyP o n r w ho hr hV.p
end Go.Proofs.YtmejjphliaiamaaGreatDoor
