import Derived.Test.YtffolbdimkhmmaaDoorSfA
set_option linter.unusedVariables false
set_option linter.unusedSimpArgs false
namespace Go.Proofs.YtffolbdimkhmmaaDoor
open Go Go.RowKit Go.Lib

/-! ### a line, word by word -/
def accO (b : ByteArray) (ws : List ByteArray) : ByteArray := ws.foldl (fun o w => o ++ ⟨#[32]⟩ ++ w) b
theorem accO_app (b : ByteArray) (u v : List ByteArray) : accO b (u ++ v) = accO (accO b u) v := List.foldl_append
theorem accO_one (b w : ByteArray) : accO b [w] = b ++ ⟨#[32]⟩ ++ w := rfl
theorem accO_size : ∀ (ws : List ByteArray) (b : ByteArray), (accO b ws).size = b.size + lenS ws
  | [], b => rfl
  | w :: r, b => by
    have h := accO_size r (b ++ ⟨#[32]⟩ ++ w)
    rw [ByteArray.size_append, ByteArray.size_append, show (⟨#[32]⟩ : ByteArray).size = 1 from rfl] at h
    rw [lenS_cons]
    show (accO (b ++ ⟨#[32]⟩ ++ w) r).size = _
    omega
theorem accO_list : ∀ (ws : List ByteArray) (b : ByteArray), (accO b ws).data.toList = b.data.toList ++ joinTail [32] (ws.map (·.data.toList))
  | [], b => by show b.data.toList = b.data.toList ++ []; rw [List.append_nil]
  | w :: r, b => by
    have e : joinTail [32] ((w :: r).map (·.data.toList)) = 32 :: (w.data.toList ++ joinTail [32] (r.map (·.data.toList))) := by simp [joinTail]
    show (accO (b ++ ⟨#[32]⟩ ++ w) r).data.toList = _
    rw [accO_list r, e, ba_app, ba_app, List.append_assoc, List.append_assoc]
    rfl
theorem accO_line (b : ByteArray) (ws : List ByteArray) : accO b ws ++ ⟨#[10]⟩ = lineB (b :: ws) := by
  apply ba_ext
  unfold lineB
  rw [ba_app, ba_app, accO_list, List.map_cons, Lib.join_cons]
theorem tell_takeO (x : StP) (pl : List UInt8) (k : Nat) (c : UInt8) (h : pl[k]? = some c) : tellP (pl.take (k + 1)) x = tellP (pl.take k) x ++ tellC c x ∧ lenS (tellP (pl.take k) x) + lenS (tellC c x) ≤ lenS (tellP pl x) := by
  have h1 : tellP (pl.take (k + 1)) x = tellP (pl.take k) x ++ tellC c x := by
    unfold tellP
    rw [List.take_add_one, h, List.flatMap_append]
    show _ ++ (tellC c x ++ []) = _
    rw [List.append_nil]
  refine ⟨h1, ?_⟩
  have h2 : tellP pl x = tellP (pl.take (k + 1)) x ++ tellP (pl.drop (k + 1)) x := by
    unfold tellP
    rw [← List.flatMap_append, List.take_append_drop]
  rw [h2, h1, lenS_app, lenS_app]
  omega
theorem lenS_one (w : ByteArray) : lenS [w] = w.size + 1 := rfl
def LnRel2 (fw : ByteArray) (x : StP) (pl : List UInt8) (w5 : World) (v7 v8 : Value) (wr : World) : Prop :=
  ∃ k : Nat, k ≤ pl.length ∧ v8 = .int .i64 k ∧ v7 = .string (accO fw (tellP (pl.take k) x)) ∧ Below w5.heap.size w5 wr ∧ w5.heap.size ≤ wr.heap.size
def LnRel3 (b : ByteArray) (keep : List Int) (w6 : World) (v7 v9 : Value) (wr : World) : Prop :=
  ∃ k : Nat, k ≤ keep.length ∧ v9 = .int .i64 k ∧ v7 = .string (accO b ((keep.take k).map itoaB)) ∧ Below w6.heap.size w6 wr ∧ w6.heap.size ≤ wr.heap.size
def LinePost (x : StP) (w : World) (e : Ending) (w' : World) : Prop := e = .returned (.tuple #[.string ((lineP x).getD ⟨#[]⟩), .bool (lineP x).isSome]) ∧ Below w.heap.size w w'
set_option maxRecDepth 100000 in
set_option maxHeartbeats 4000000 in
theorem rline_any (x : StP) (kv : Value) (w : World) (hV : VarsV w) (hI : IntsM w kv x.keep) (hr : okS x) (hz : stW x ≤ 2000000000) : Calls Tryd.prog 27 #[.agg (stepA x kv)] w (LinePost x w) := by
  have hls := fun f hf => line_size (k := x.kind) (f := f) hf x hr.1
  have hts : x.text.size ≤ 1000000000 := by unfold stW at hz; omega
  have hks : x.keep.length ≤ 100000000 := by unfold stW at hz; omega
  obtain ⟨⟨ra, rb, rn, rk⟩, -⟩ := hr
  obtain ⟨kind, a, b, n, text, keep⟩ := x
  dsimp only at hI ra rb rn rk hts hks
  obtain ⟨kad, kcap, rfl, -⟩ := id hI
  have HI := Lib.hid hI
  have HV := Lib.hid hV
  have HF := Lib.hid rforms_any
  have HLs := Lib.hid hls
  have HRk := Lib.hid rk
  have hx1 := blk_new w (.cells #[.int .i64 kind, .int .i64 a, .int .i64 b, .int .i64 n, .string text, .slice kad keep.length kcap] TSt)
  have hw2 : Below w.heap.size w (w.alloc (.cells #[.int .i64 kind, .int .i64 a, .int .i64 b, .int .i64 n, .string text, .slice kad keep.length kcap] TSt)) := (Below.refl _ _).alloc (Nat.le_refl _) _
  have hs2 : (w.alloc (.cells #[.int .i64 kind, .int .i64 a, .int .i64 b, .int .i64 n, .string text, .slice kad keep.length kcap] TSt)).heap.size = w.heap.size + 1 := size_alloc _ _
  have HX1 := Lib.hid hx1
  have HW2 := Lib.hid hw2
  have HS2 := Lib.hid hs2
  clear hI hV hx1 hw2 hs2 hls rk
  unfold stepA
  go_enter Tryd.func27, Tryd.ntmps27
  go_wp2_with fail
  generalize (w.alloc (.cells #[.int .i64 kind, .int .i64 a, .int .i64 b, .int .i64 n, .string text, .slice kad keep.length kcap] TSt)) = w2 at HX1 HW2 HS2 ⊢
  refine (HF.out w2).mono ?_
  rintro e w3 ⟨rfl, hfm, hb3⟩
  have HX1' := Lib.hid (blk_later HX1.out hb3)
  have HB3 := Lib.hid (HW2.out.trans (hb3.mono HW2.out.size))
  have hs3 := hb3.size
  have hs2 := HS2.out
  obtain ⟨fb, hfb⟩ : ∃ fb, fb = w2.heap.size := ⟨_, rfl⟩
  rw [← hfb] at hfm hs2 hs3
  rw [← hfb]
  have HFm := Lib.hid hfm
  have hs4 : w.heap.size < fb := by omega
  have hs3w := HB3.out.size
  clear hs2
  clear hfm hb3 HX1 HF hfb HW2 HS2
  go_wp2_with fail
  go_loopw [5] (fun i wr => BrRel1 ⟨kind, a, b, n, text, keep⟩ w3 i wr) (fun i _ => 19 - (intOf i).toNat)
  case atStart => exact ⟨0, Nat.zero_le _, rfl, fun j hj => by omega, Below.refl _ _, Nat.le_refl _⟩
  case round =>
    obtain ⟨k, hk, rfl, hno, hB, hsz⟩ := hrel
    have hfm := blk_later HFm.out hB
    have h1 := blk_later HX1'.out hB
    have c0 := fun o => cell_alloc (cell_of_blk h1 0 (v := .int .i64 kind) rfl) o
    have hk0 : (0 : Int) ≤ (k : Int) := Int.natCast_nonneg _
    have HB := Lib.hid hB
    clear hB
    by_cases hlt : k < 19
    · obtain ⟨f, hf, hf1, hf2, hf4, hf3⟩ := rf_at k hlt
      obtain ⟨fw, fk, pl⟩ := f
      dsimp only at hf1 hf2 hf3 hf4
      subst hf1
      have d0 := rf_cell hfm hf 0 rfl
      have d1 := rf_cell hfm hf 1 rfl
      have d2 := rf_cell hfm hf 2 rfl
      rw [Nat.add_zero] at d0
      dsimp only at d0 d1 d2
      have hk1 : (fk : Int) < 19 := by omega
      have hk2 : (fk : Int) ≤ 18 := by omega
      have H1 := Lib.hid h1
      have HF3 := Lib.hid hf3
      have HF2 := Lib.hid hf2
      have HNo := Lib.hid hno
      clear h1 hfm hf hf3 hf2 hno
      by_cases he : (fk : Int) = kind
      · subst he
        have hy1 := blk_new wr (.cells #[.string fw, .int .i64 fk, .string (lnB pl)] 81)
        have hwB : Below wr.heap.size wr (wr.alloc (.cells #[.string fw, .int .i64 fk, .string (lnB pl)] 81)) := (Below.refl _ _).alloc (Nat.le_refl _) _
        have HY1 := Lib.hid hy1
        have HWB := Lib.hid hwB
        clear hy1 hwB
        go_wp2_with fail
        generalize (wr.alloc (.cells #[.string fw, .int .i64 fk, .string (lnB pl)] 81)) = w5 at HY1 HWB ⊢
        obtain ⟨g5, hg5⟩ : ∃ g5, g5 = wr.heap.size := ⟨_, rfl⟩
        have hsz5 := HWB.out.size
        have HK := Lib.hid (blk_later H1.out HWB.out)
        have HBw := Lib.hid (HB3.out.trans ((HB.out.trans (HWB.out.mono hsz)).mono HB3.out.size))
        have hfit := (HLs.out (fw, pl) HF2.out).1
        rw [← accO_line, ByteArray.size_append, accO_size, show (⟨#[10]⟩ : ByteArray).size = 1 from rfl] at hfit
        dsimp only at hfit
        have hfit2 : fw.size + lenS (tellP pl ⟨fk, a, b, n, text, keep⟩) + 1 ≤ 2000000000 := by omega
        rw [← hg5] at HY1 hsz hsz5
        rw [← hg5]
        clear c0 d0 d1 d2 HB HWB H1 hg5 hfit
        obtain ⟨wk, hwk⟩ : ∃ wk : World, wk = wr := ⟨_, rfl⟩
        subst hwk
        go_loopw [7, 8] (fun v i wx => LnRel2 fw ⟨fk, a, b, n, text, keep⟩ pl w5 v i wx) (fun _ i _ => pl.length - (intOf i).toNat)
        case atStart => exact ⟨0, Nat.zero_le _, rfl, rfl, Below.refl _ _, Nat.le_refl _⟩
        case round =>
          obtain ⟨j, hj, rfl, rfl, hB2, hsz2⟩ := hrel
          have hY := blk_later HY1.out hB2
          have hKx := blk_later HK.out hB2
          have y2 := cell_of_blk hY 2 (v := .string (lnB pl)) rfl
          have hpsz : (lnB pl).size = pl.length := by simp [lnB, ByteArray.size]
          have HB2 := Lib.hid hB2
          have hBl := HBw.out.trans (hB2.mono HBw.out.size)
          have HBl := Lib.hid hBl
          have HVl := Lib.hid (HV.out.below hBl)
          have HIl := Lib.hid (HI.out.below hBl)
          by_cases hjl : j < pl.length
          · obtain ⟨c, hc⟩ : ∃ c, pl[j]? = some c := ⟨_, List.getElem?_eq_getElem hjl⟩
            have hix := fun W => idx_str (lnB pl) j (by rw [hpsz]; exact hjl) W
            have hgc : (lnB pl).data.toList.getD j 0 = c := by
              show pl.toArray.toList.getD j 0 = c
              rw [List.toList_toArray, List.getD_eq_getElem?_getD, hc]
              rfl
            rw [hgc] at hix
            obtain ⟨ht1, ht2⟩ := tell_takeO ⟨fk, a, b, n, text, keep⟩ pl j c hc
            have hcp := HF3.out c (List.mem_of_getElem? hc)
            have hj0 : (0 : Int) ≤ (j : Int) := Int.natCast_nonneg _
            have hj1 : (j : Int) < (pl.length : Int) := by omega
            have hpi : ((lnB pl).size : Int) = (pl.length : Int) := by rw [hpsz]
            have hos := accO_size (tellP (pl.take j) ⟨fk, a, b, n, text, keep⟩) fw
            have hne : accO fw (tellP (pl.take (j + 1)) ⟨fk, a, b, n, text, keep⟩) = accO (accO fw (tellP (pl.take j) ⟨fk, a, b, n, text, keep⟩)) (tellC c ⟨fk, a, b, n, text, keep⟩) := by rw [ht1, accO_app]
            have HNe := Lib.hid hne
            have hsz3 : (accO fw (tellP (pl.take j) ⟨fk, a, b, n, text, keep⟩)).size + lenS (tellC c ⟨fk, a, b, n, text, keep⟩) ≤ 2000000000 := by omega
            generalize accO fw (tellP (pl.take j) ⟨fk, a, b, n, text, keep⟩) = out at HNe hsz3 ⊢
            clear hB2 hBl hgc hc hpsz hY ht1 ht2 hos hne
            rcases hcp with rfl | rfl | rfl | rfl | rfl
            · have k1 := cell_of_blk hKx 1 (v := .int .i64 a) rfl
              have htc : tellC 65 ⟨fk, a, b, n, text, keep⟩ = [itoaB a] := rfl
              have hne := HNe.out
              rw [htc, accO_one] at hne
              rw [htc, lenS_one] at hsz3
              have HNe2 := Lib.hid hne
              have HCl := Lib.hid (itoa_any a wr ra.1 ra.2 HVl.out)
              generalize itoaB a = wd at HCl HNe2 hsz3 ⊢
              have hr1 : ¬ 9223372036854775807 < out.size + 1 := by omega
              have hr2 : ¬ 9223372036854775807 < out.size + (⟨#[32]⟩ : ByteArray).size := by rw [show (⟨#[32]⟩ : ByteArray).size = 1 from rfl]; omega
              have hr3 : ¬ 9223372036854775807 < out.size + 1 + wd.size := by omega
              have hr4 : ¬ 9223372036854775807 < (out ++ ⟨#[32]⟩).size + wd.size := by rw [ByteArray.size_append, show (⟨#[32]⟩ : ByteArray).size = 1 from rfl]; omega
              clear hKx htc hne HNe
              go_wp2_with fail
              refine HCl.out.mono ?_
              rintro e w6 ⟨rfl, hb6⟩
              have HB6 := Lib.hid (HB2.out.trans (hb6.mono hsz2))
              have hs6 := HB6.out.size
              clear hb6 HCl
              go_wp2_with fail
              go_roundw
              case rel => exact ⟨j + 1, hjl, by go_num, by rw [HNe2.out], HB6.out, hs6⟩
              case measure => simp [intOf]; omega
            · have k1 := cell_of_blk hKx 2 (v := .int .i64 b) rfl
              have htc : tellC 66 ⟨fk, a, b, n, text, keep⟩ = [itoaB b] := rfl
              have hne := HNe.out
              rw [htc, accO_one] at hne
              rw [htc, lenS_one] at hsz3
              have HNe2 := Lib.hid hne
              have HCl := Lib.hid (itoa_any b wr rb.1 rb.2 HVl.out)
              generalize itoaB b = wd at HCl HNe2 hsz3 ⊢
              have hr1 : ¬ 9223372036854775807 < out.size + 1 := by omega
              have hr2 : ¬ 9223372036854775807 < out.size + (⟨#[32]⟩ : ByteArray).size := by rw [show (⟨#[32]⟩ : ByteArray).size = 1 from rfl]; omega
              have hr3 : ¬ 9223372036854775807 < out.size + 1 + wd.size := by omega
              have hr4 : ¬ 9223372036854775807 < (out ++ ⟨#[32]⟩).size + wd.size := by rw [ByteArray.size_append, show (⟨#[32]⟩ : ByteArray).size = 1 from rfl]; omega
              clear hKx htc hne HNe
              go_wp2_with fail
              refine HCl.out.mono ?_
              rintro e w6 ⟨rfl, hb6⟩
              have HB6 := Lib.hid (HB2.out.trans (hb6.mono hsz2))
              have hs6 := HB6.out.size
              clear hb6 HCl
              go_wp2_with fail
              go_roundw
              case rel => exact ⟨j + 1, hjl, by go_num, by rw [HNe2.out], HB6.out, hs6⟩
              case measure => simp [intOf]; omega
            · have k1 := cell_of_blk hKx 3 (v := .int .i64 n) rfl
              have htc : tellC 78 ⟨fk, a, b, n, text, keep⟩ = [itoaB n] := rfl
              have hne := HNe.out
              rw [htc, accO_one] at hne
              rw [htc, lenS_one] at hsz3
              have HNe2 := Lib.hid hne
              have HCl := Lib.hid (itoa_any n wr rn.1 rn.2 HVl.out)
              generalize itoaB n = wd at HCl HNe2 hsz3 ⊢
              have hr1 : ¬ 9223372036854775807 < out.size + 1 := by omega
              have hr2 : ¬ 9223372036854775807 < out.size + (⟨#[32]⟩ : ByteArray).size := by rw [show (⟨#[32]⟩ : ByteArray).size = 1 from rfl]; omega
              have hr3 : ¬ 9223372036854775807 < out.size + 1 + wd.size := by omega
              have hr4 : ¬ 9223372036854775807 < (out ++ ⟨#[32]⟩).size + wd.size := by rw [ByteArray.size_append, show (⟨#[32]⟩ : ByteArray).size = 1 from rfl]; omega
              clear hKx htc hne HNe
              go_wp2_with fail
              refine HCl.out.mono ?_
              rintro e w6 ⟨rfl, hb6⟩
              have HB6 := Lib.hid (HB2.out.trans (hb6.mono hsz2))
              have hs6 := HB6.out.size
              clear hb6 HCl
              go_wp2_with fail
              go_roundw
              case rel => exact ⟨j + 1, hjl, by go_num, by rw [HNe2.out], HB6.out, hs6⟩
              case measure => simp [intOf]; omega
            · have k1 := cell_of_blk hKx 4 (v := .string text) rfl
              have htc : tellC 84 ⟨fk, a, b, n, text, keep⟩ = [wordP text] := rfl
              have hne := HNe.out
              rw [htc, accO_one] at hne
              rw [htc, lenS_one] at hsz3
              have HNe2 := Lib.hid hne
              have HCl := Lib.hid (rword_any text wr (by omega))
              generalize wordP text = wd at HCl HNe2 hsz3 ⊢
              have hr1 : ¬ 9223372036854775807 < out.size + 1 := by omega
              have hr2 : ¬ 9223372036854775807 < out.size + (⟨#[32]⟩ : ByteArray).size := by rw [show (⟨#[32]⟩ : ByteArray).size = 1 from rfl]; omega
              have hr3 : ¬ 9223372036854775807 < out.size + 1 + wd.size := by omega
              have hr4 : ¬ 9223372036854775807 < (out ++ ⟨#[32]⟩).size + wd.size := by rw [ByteArray.size_append, show (⟨#[32]⟩ : ByteArray).size = 1 from rfl]; omega
              clear hKx htc hne HNe
              go_wp2_with fail
              refine HCl.out.mono ?_
              rintro e w6 ⟨rfl, hb6⟩
              have HB6 := Lib.hid (HB2.out.trans (hb6.mono hsz2))
              have hs6 := HB6.out.size
              clear hb6 HCl
              go_wp2_with fail
              go_roundw
              case rel => exact ⟨j + 1, hjl, by go_num, by rw [HNe2.out], HB6.out, hs6⟩
              case measure => simp [intOf]; omega
            · have htc : tellC 75 ⟨fk, a, b, n, text, keep⟩ = keep.map itoaB := rfl
              have hne := HNe.out
              rw [htc] at hne
              rw [htc] at hsz3
              have HNe2 := Lib.hid hne
              have k5 := cell_of_blk hKx 5 (v := .slice kad keep.length kcap) rfl
              have HKx := Lib.hid hKx
              clear hKx htc hne HNe
              go_wp2_with fail
              obtain ⟨wk2, hwk2⟩ : ∃ wk2 : World, wk2 = wr := ⟨_, rfl⟩
              subst hwk2
              clear k5
              go_loopw [7, 9] (fun v i wx => LnRel3 out keep wk2 v i wx) (fun _ i _ => keep.length - (intOf i).toNat)
              case atStart => exact ⟨0, Nat.zero_le _, rfl, rfl, Below.refl _ _, Nat.le_refl _⟩
              case round =>
                obtain ⟨i, hi, rfl, rfl, hB3x, hsz3x⟩ := hrel
                have hk5 := blk_later HKx.out hB3x
                have k5 := cell_of_blk hk5 5 (v := .slice kad keep.length kcap) rfl
                have HBm := Lib.hid (HB2.out.trans (hB3x.mono hsz2))
                by_cases hil : i < keep.length
                · obtain ⟨m, hm⟩ : ∃ m, keep[i]? = some m := ⟨_, List.getElem?_eq_getElem hil⟩
                  obtain ⟨ad9, cap9, e9, hc9⟩ := HIl.out
                  obtain ⟨pb, po, e8, hcell⟩ := hc9 i m hm
                  injection e9 with e9 _ e7
                  rw [e8] at e9
                  subst e9
                  have hcr := (hB3x.cell (cell_lt hcell)).trans hcell
                  have hrm := HRk.out m (List.mem_of_getElem? hm)
                  have HCl := Lib.hid (itoa_any m wr hrm.1 hrm.2 (HVl.out.below hB3x))
                  have hne3 : accO out ((keep.take (i + 1)).map itoaB) = accO out ((keep.take i).map itoaB) ++ ⟨#[32]⟩ ++ itoaB m := by
                    rw [List.take_add_one, hm, List.map_append, accO_app]
                    rfl
                  have hle3 : lenS ((keep.take i).map itoaB) + ((itoaB m).size + 1) ≤ lenS (keep.map itoaB) := by
                    have e5 : keep.map itoaB = (keep.take i).map itoaB ++ ([itoaB m] ++ (keep.drop (i + 1)).map itoaB) := by
                      have h5 : keep = keep.take i ++ ([m] ++ keep.drop (i + 1)) := by
                        have h6 := List.take_append_drop (i + 1) keep
                        rw [List.take_add_one, hm, List.append_assoc] at h6
                        exact h6.symm
                      have h7 := congrArg (List.map itoaB) h5
                      rw [List.map_append, List.map_append] at h7
                      exact h7
                    rw [e5, lenS_app, lenS_app, lenS_one]
                    omega
                  have hos3 := accO_size ((keep.take i).map itoaB) out
                  have HNe3 := Lib.hid hne3
                  generalize accO out ((keep.take i).map itoaB) = out3 at HNe3 hos3 ⊢
                  generalize itoaB m = wd at HCl HNe3 hle3 ⊢
                  have hr1 : ¬ 9223372036854775807 < out3.size + 1 := by omega
                  have hr2 : ¬ 9223372036854775807 < out3.size + (⟨#[32]⟩ : ByteArray).size := by rw [show (⟨#[32]⟩ : ByteArray).size = 1 from rfl]; omega
                  have hr3 : ¬ 9223372036854775807 < out3.size + 1 + wd.size := by omega
                  have hr4 : ¬ 9223372036854775807 < (out3 ++ ⟨#[32]⟩).size + wd.size := by rw [ByteArray.size_append, show (⟨#[32]⟩ : ByteArray).size = 1 from rfl]; omega
                  have hi0 : (0 : Int) ≤ (i : Int) := Int.natCast_nonneg _
                  have hi1 : (i : Int) < (keep.length : Int) := by omega
                  have HB3x := Lib.hid hB3x
                  clear hcell hc9 e8 e7 hm hrm hne3 hle3 hos3 hB3x hk5
                  go_wp2_with fail
                  refine HCl.out.mono ?_
                  rintro e w6 ⟨rfl, hb6⟩
                  have HB6 := Lib.hid (HB3x.out.trans (hb6.mono hsz3x))
                  have hs6 := HB6.out.size
                  clear hb6 HCl hcr k5
                  go_wp2_with fail
                  go_roundw
                  case rel => exact ⟨i + 1, hil, by go_num, by rw [HNe3.out], HB6.out, hs6⟩
                  case measure => simp [intOf]; omega
                · obtain rfl : i = keep.length := by omega
                  have hsf := HBm.out.size
                  clear hB3x hk5
                  go_wp2_with fail
                  go_roundw
                  case rel => exact ⟨j + 1, hjl, by go_num, by rw [HNe2.out, List.take_length], HBm.out, hsf⟩
                  case measure => simp [intOf]; omega
          · obtain rfl : j = pl.length := by omega
            have hlp : lineP ⟨fk, a, b, n, text, keep⟩ = some (accO fw (tellP pl ⟨fk, a, b, n, text, keep⟩) ++ ⟨#[10]⟩) := by
              unfold lineP
              rw [show formK (StP.kind ⟨fk, a, b, n, text, keep⟩) = some (fw, pl) from HF2.out, accO_line]
              rfl
            have HLp := Lib.hid hlp
            have hpi : ((lnB pl).size : Int) = (pl.length : Int) := by rw [hpsz]
            rw [List.take_length]
            have hos := accO_size (tellP pl ⟨fk, a, b, n, text, keep⟩) fw
            generalize accO fw (tellP pl ⟨fk, a, b, n, text, keep⟩) = out at HLp hos ⊢
            have hr1 : ¬ 9223372036854775807 < out.size + 1 := by omega
            have hr2 : ¬ 9223372036854775807 < out.size + (⟨#[10]⟩ : ByteArray).size := by rw [show (⟨#[10]⟩ : ByteArray).size = 1 from rfl]; omega
            clear hlp hB2 hBl hpsz hY hKx
            go_wp2_with fail
            go_ret2
            exact ⟨by rw [HLp.out]; rfl, HBl.out⟩
      · have heb : ((fk : Int) == kind) = false := beq_eq_false_iff_ne.2 he
        go_wp2_with fail
        go_roundw
        case rel => exact ⟨fk + 1, hlt, by go_num, fun j hj => by
          by_cases hjk : j < fk
          · exact HNo.out j hjk
          · obtain rfl : j = fk := by omega
            exact fun e => he e.symm, HB.out.alloc hsz _, by rw [size_alloc]; omega⟩
        case measure => simp [intOf]; omega
    · obtain rfl : k = 19 := by omega
      have hlp : lineP ⟨kind, a, b, n, text, keep⟩ = none := by
        unfold lineP
        rw [show formK (StP.kind ⟨kind, a, b, n, text, keep⟩) = none from rf_none hno]
        rfl
      have HLp := Lib.hid hlp
      clear c0 h1 hfm hno hlp
      go_wp2_with fail
      go_ret2
      exact ⟨by rw [HLp.out]; rfl, HB3.out.trans (HB.out.mono hs3w)⟩
end Go.Proofs.YtffolbdimkhmmaaDoor
