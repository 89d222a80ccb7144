import Derived.Test.YtffolbdimkhmmaaDoorScZ
set_option linter.unusedVariables false
set_option linter.unusedSimpArgs false
namespace Go.Proofs.YtffolbdimkhmmaaDoor
open Go Go.RowKit Go.Lib

/-! ### the document's table of steps -/
def rfL (f : ByteArray × Nat × List UInt8) : List Value := [.string f.1, .int .i64 f.2.1, .string (lnB f.2.2)]
def rfC : Array Value := (formsL.flatMap rfL).toArray
set_option maxRecDepth 100000 in
set_option maxHeartbeats 2000000 in
theorem rforms_any (w : World) : Calls Tryd.prog 28 #[] w fun e w' => e = .returned (.slice (some ⟨w.heap.size, 0, none⟩) 19 19) ∧ w'.heap[w.heap.size]? = some (.cells rfC 81 (0, 0)) ∧ Below w.heap.size w w' := by
  go_enter Tryd.func28, Tryd.ntmps28
  go_wp2_with fail
  go_ret
  refine ⟨rfl, (blk_new w _).trans (by kernel_rfl), (Below.refl _ _).alloc (Nat.le_refl _) _⟩

def rfChk : Bool := (List.range 19).all fun i => match formsL[i]? with
  | some f => decide (f.2.1 = i) && decide (formK i = some (f.1, f.2.2)) && decide (f.2.2.length ≤ 4) && f.2.2.all (fun c => decide (c = 65 ∨ c = 66 ∨ c = 78 ∨ c = 84 ∨ c = 75))
  | none => false
theorem rf_chk : rfChk = true := by kernel_rfl
theorem rf_at (i : Nat) (hi : i < 19) : ∃ f, formsL[i]? = some f ∧ f.2.1 = i ∧ formK i = some (f.1, f.2.2) ∧ f.2.2.length ≤ 4 ∧ ∀ c ∈ f.2.2, isPl c := by
  have h := List.all_eq_true.1 rf_chk i (List.mem_range.2 hi)
  cases hf : formsL[i]? with
  | none => rw [hf] at h; cases h
  | some f =>
    rw [hf] at h
    simp only [Bool.and_eq_true, decide_eq_true_eq] at h
    refine ⟨f, rfl, h.1.1.1, h.1.1.2, h.1.2, fun c hc => ?_⟩
    have := List.all_eq_true.1 h.2 c hc
    have := of_decide_eq_true this
    rcases this with h | h | h | h | h
    · exact .inl h
    · exact .inr (.inl h)
    · exact .inr (.inr (.inl h))
    · exact .inr (.inr (.inr (.inl h)))
    · exact .inr (.inr (.inr (.inr h)))
theorem rf_none {k : Int} (h : ∀ i : Nat, i < 19 → k ≠ i) : formK k = none := by
  unfold formK
  rw [Option.map_eq_none_iff, List.find?_eq_none]
  intro f hf
  obtain ⟨i, hi, e⟩ := List.getElem_of_mem hf
  have hi19 : i < 19 := hi
  obtain ⟨f', h1, h2, -⟩ := rf_at i hi19
  rw [List.getElem?_eq_getElem hi, e] at h1
  injection h1 with h1
  subst h1
  intro hc
  exact h i hi19 (by rw [← of_decide_eq_true hc, h2])
theorem rf_cell {W : World} {g : Nat} (h : W.heap[g]? = some (.cells rfC 81 (0, 0))) {i : Nat} {f : ByteArray × Nat × List UInt8} (hf : formsL[i]? = some f) (j : Nat) {u : Value} (hu : (rfL f)[j]? = some u) : W.cell? ⟨g, i * 3 + j, none⟩ = some u := by
  refine cell_of_blk h _ ?_
  unfold rfC
  rw [List.getElem?_toArray]
  exact flat_get rfL 3 (fun _ => rfl) _ _ _ hf _ (by have := (List.getElem?_eq_some_iff.1 hu).1; exact this) |>.trans hu

/-! ### a step as its line tells it -/
def stepA (x : StP) (kv : Value) : Array Value := #[.int .i64 x.kind, .int .i64 x.a, .int .i64 x.b, .int .i64 x.n, .string x.text, kv]
def foldB (x : StP) (pl : List UInt8) (k : Nat) : StP := (pl.take k).foldl (fun o c => bareC c x o) (zst x.kind)
theorem foldB_succ (x : StP) (pl : List UInt8) (k : Nat) (c : UInt8) (h : pl[k]? = some c) : foldB x pl (k + 1) = bareC c x (foldB x pl k) := by
  unfold foldB
  rw [List.take_add_one, h, List.foldl_append]
  rfl
theorem foldB_all (x : StP) (pl : List UInt8) : foldB x pl pl.length = pl.foldl (fun o c => bareC c x o) (zst x.kind) := by
  unfold foldB
  rw [List.take_length]
def BrRel1 (x : StP) (w : World) (i : Value) (wr : World) : Prop := ∃ k : Nat, k ≤ 19 ∧ i = .int .i64 k ∧ (∀ j : Nat, j < k → x.kind ≠ j) ∧ Below w.heap.size w wr ∧ w.heap.size ≤ wr.heap.size
def BrRel2 (x : StP) (pl : List UInt8) (g : Nat) (w0 w : World) (i : Value) (wr : World) : Prop := ∃ (k : Nat) (kv : Value), k ≤ pl.length ∧ i = .int .i64 k ∧ wr.heap[g]? = some (.cells (stepA (foldB x pl k) kv) TSt (0, 0)) ∧ IntsM w0 kv (foldB x pl k).keep ∧ Below g w wr ∧ w.heap.size ≤ wr.heap.size
def BarePost (x : StP) (W0 w : World) (e : Ending) (w' : World) : Prop := ∃ kv, e = .returned (.agg (stepA (bareP x) kv)) ∧ IntsM W0 kv (bareP x).keep ∧ Below w.heap.size w w'
theorem below_set6 {B g : Nat} {w w' : World} (h : Below B w w') (hb : B ≤ g) (v0 v1 v2 v3 v4 v5 : Value) : Below B w ((((((w'.setCell ⟨g, 0, none⟩ v0).setCell ⟨g, 1, none⟩ v1).setCell ⟨g, 2, none⟩ v2).setCell ⟨g, 3, none⟩ v3).setCell ⟨g, 4, none⟩ v4).setCell ⟨g, 5, none⟩ v5) :=
  (((((h.setCell (p := ⟨g, 0, none⟩) hb _).setCell (p := ⟨g, 1, none⟩) hb _).setCell (p := ⟨g, 2, none⟩) hb _).setCell (p := ⟨g, 3, none⟩) hb _).setCell (p := ⟨g, 4, none⟩) hb _).setCell (p := ⟨g, 5, none⟩) hb _
set_option maxRecDepth 100000 in
set_option maxHeartbeats 4000000 in
theorem bare_any (W0 : World) (x : StP) (kv : Value) (w : World) (hI : IntsM W0 kv x.keep) : Calls Tryd.prog 14 #[.agg (stepA x kv)] w (BarePost x W0 w) := by
  obtain ⟨kind, a, b, n, text, keep⟩ := x
  obtain ⟨kad, kcap, rfl, -⟩ := id hI
  have HI := Lib.hid hI
  have HF := Lib.hid rforms_any
  have hx1 := blk_new1 w (.cells #[.int .i64 kind, .int .i64 a, .int .i64 b, .int .i64 n, .string text, .slice kad keep.length kcap] TSt) (.cells #[.int .i64 0, .int .i64 0, .int .i64 0, .int .i64 0, .string ⟨#[]⟩, .slice none 0 0] TSt)
  have hx2 := blk_new2 w (.cells #[.int .i64 kind, .int .i64 a, .int .i64 b, .int .i64 n, .string text, .slice kad keep.length kcap] TSt) (.cells #[.int .i64 0, .int .i64 0, .int .i64 0, .int .i64 0, .string ⟨#[]⟩, .slice none 0 0] TSt)
  have hw2 : Below w.heap.size w ((w.alloc (.cells #[.int .i64 kind, .int .i64 a, .int .i64 b, .int .i64 n, .string text, .slice kad keep.length kcap] TSt)).alloc (.cells #[.int .i64 0, .int .i64 0, .int .i64 0, .int .i64 0, .string ⟨#[]⟩, .slice none 0 0] TSt)) :=
        ((Below.refl _ _).alloc (Nat.le_refl _) _).alloc (by rw [size_alloc]; omega) _
  have hs2 : ((w.alloc (.cells #[.int .i64 kind, .int .i64 a, .int .i64 b, .int .i64 n, .string text, .slice kad keep.length kcap] TSt)).alloc (.cells #[.int .i64 0, .int .i64 0, .int .i64 0, .int .i64 0, .string ⟨#[]⟩, .slice none 0 0] TSt)).heap.size = w.heap.size + 1 + 1 := by rw [size_alloc, size_alloc]
  have HX1 := Lib.hid hx1
  have HX2 := Lib.hid hx2
  have HW2 := Lib.hid hw2
  have HS2 := Lib.hid hs2
  clear hI hx1 hx2 hw2 hs2
  unfold stepA
  go_enter Tryd.func14, Tryd.ntmps14
  go_wp2_with fail
  generalize ((w.alloc (.cells #[.int .i64 kind, .int .i64 a, .int .i64 b, .int .i64 n, .string text, .slice kad keep.length kcap] TSt)).alloc (.cells #[.int .i64 0, .int .i64 0, .int .i64 0, .int .i64 0, .string ⟨#[]⟩, .slice none 0 0] TSt)) = w2 at HX1 HX2 HW2 HS2 ⊢
  refine (HF.out w2).mono ?_
  rintro e w3 ⟨rfl, hfm, hb3⟩
  have HX1' := Lib.hid (blk_later HX1.out hb3)
  have HX2' := Lib.hid (blk_later HX2.out hb3)
  have HB3 := Lib.hid (HW2.out.trans (hb3.mono HW2.out.size))
  have hs3 := hb3.size
  have hs2 := HS2.out
  obtain ⟨fb, hfb⟩ : ∃ fb, fb = w2.heap.size := ⟨_, rfl⟩
  rw [← hfb] at hfm hs2 hs3
  rw [← hfb]
  have HFm := Lib.hid hfm
  have hs4 : w.heap.size + 1 < fb := by omega
  clear hs2
  clear hfm hb3 HX1 HX2 HF hfb HW2 HS2
  go_wp2_with fail
  go_loopw [4] (fun i wr => BrRel1 ⟨kind, a, b, n, text, keep⟩ w3 i wr) (fun i _ => 19 - (intOf i).toNat)
  case atStart => exact ⟨0, Nat.zero_le _, rfl, fun j hj => by omega, Below.refl _ _, Nat.le_refl _⟩
  case round =>
    obtain ⟨k, hk, rfl, hno, hB, hsz⟩ := hrel
    have hfm := blk_later HFm.out hB
    have h1 := blk_later HX1'.out hB
    have h2 := blk_later HX2'.out hB
    have c0 := fun o => cell_alloc (cell_of_blk h1 0 (v := .int .i64 kind) rfl) o
    have hk0 : (0 : Int) ≤ (k : Int) := Int.natCast_nonneg _
    have HB := Lib.hid hB
    clear hB
    by_cases hlt : k < 19
    · obtain ⟨f, hf, hf1, hf2, hf4, hf3⟩ := rf_at k hlt
      obtain ⟨fw, fk, pl⟩ := f
      dsimp only at hf1 hf2 hf3 hf4
      subst hf1
      have d0 := rf_cell hfm hf 0 rfl
      have d1 := rf_cell hfm hf 1 rfl
      have d2 := rf_cell hfm hf 2 rfl
      rw [Nat.add_zero] at d0
      dsimp only at d0 d1 d2
      have hk1 : (fk : Int) < 19 := by omega
      have hk2 : (fk : Int) ≤ 18 := by omega
      have H1 := Lib.hid h1
      have H2 := Lib.hid h2
      have HF3 := Lib.hid hf3
      have HF2 := Lib.hid hf2
      have HNo := Lib.hid hno
      clear h1 h2 hfm hf hf3 hf2 hno
      by_cases he : (fk : Int) = kind
      · subst he
        have hy1 := blk_new1 wr (.cells #[.string fw, .int .i64 fk, .string (lnB pl)] 81) (.cells #[.int .i64 fk, .int .i64 0, .int .i64 0, .int .i64 0, .string ⟨#[]⟩, .slice none 0 0] TSt)
        have hy2 := blk_new2 wr (.cells #[.string fw, .int .i64 fk, .string (lnB pl)] 81) (.cells #[.int .i64 fk, .int .i64 0, .int .i64 0, .int .i64 0, .string ⟨#[]⟩, .slice none 0 0] TSt)
        have hwB : Below wr.heap.size wr ((wr.alloc (.cells #[.string fw, .int .i64 fk, .string (lnB pl)] 81)).alloc (.cells #[.int .i64 fk, .int .i64 0, .int .i64 0, .int .i64 0, .string ⟨#[]⟩, .slice none 0 0] TSt)) :=
          ((Below.refl _ _).alloc (Nat.le_refl _) _).alloc (by rw [size_alloc]; omega) _
        have HY1 := Lib.hid hy1
        have HY2 := Lib.hid hy2
        have HWB := Lib.hid hwB
        clear hy1 hy2 hwB
        go_wp2_with fail
        generalize ((wr.alloc (.cells #[.string fw, .int .i64 fk, .string (lnB pl)] 81)).alloc (.cells #[.int .i64 fk, .int .i64 0, .int .i64 0, .int .i64 0, .string ⟨#[]⟩, .slice none 0 0] TSt)) = w5 at HY1 HY2 HWB ⊢
        obtain ⟨g5, hg5⟩ : ∃ g5, g5 = wr.heap.size := ⟨_, rfl⟩
        have hsz5 := HWB.out.size
        have HK := Lib.hid (blk_later H1.out HWB.out)
        have HZ := Lib.hid (blk_later H2.out HWB.out)
        have HBw := Lib.hid (HB3.out.trans ((HB.out.trans (HWB.out.mono hsz)).mono HB3.out.size))
        have hs3w := HB3.out.size
        rw [← hg5] at HY1 HY2 hsz hsz5
        rw [← hg5]
        clear c0 d0 d1 d2 HB HWB H1 H2 hg5
        obtain ⟨wk, hwk⟩ : ∃ wk : World, wk = wr := ⟨_, rfl⟩
        subst hwk
        go_loopw [7] (fun i wx => BrRel2 ⟨fk, a, b, n, text, keep⟩ pl (g5 + 1) W0 w5 i wx) (fun i _ => pl.length - (intOf i).toNat)
        case atStart => exact ⟨0, .slice none 0 0, Nat.zero_le _, rfl, HY2.out, ⟨none, 0, rfl, fun i n hn => by simp [foldB, zst] at hn⟩, Below.refl _ _, Nat.le_refl _⟩
        case round =>
          obtain ⟨j, kvo, hj, rfl, hO, hIo, hB2, hsz2⟩ := hrel
          obtain ⟨oad, ocap, rfl, -⟩ := id hIo
          have hlb : w.heap.size < g5 + 1 := by omega
          have y2 : wr.cell? ⟨g5, 2, none⟩ = some (.string (lnB pl)) := (hB2.cell (p := ⟨g5, 2, none⟩) (Nat.lt_succ_self _)).trans (cell_of_blk HY1.out 2 rfl)
          have hpsz : (lnB pl).size = pl.length := by simp [lnB, ByteArray.size]
          by_cases hjl : j < pl.length
          · obtain ⟨c, hc⟩ : ∃ c, pl[j]? = some c := ⟨_, List.getElem?_eq_getElem hjl⟩
            have hix := fun W => idx_str (lnB pl) j (by rw [hpsz]; exact hjl) W
            have hgc : (lnB pl).data.toList.getD j 0 = c := by
              show pl.toArray.toList.getD j 0 = c
              rw [List.toList_toArray, List.getD_eq_getElem?_getD, hc]
              rfl
            rw [hgc] at hix
            have hfs := foldB_succ ⟨fk, a, b, n, text, keep⟩ pl j c hc
            have hcp := HF3.out c (List.mem_of_getElem? hc)
            have hj0 : (0 : Int) ≤ (j : Int) := Int.natCast_nonneg _
            have hj1 : (j : Int) < (pl.length : Int) := by omega
            have hpi : ((lnB pl).size : Int) = (pl.length : Int) := by rw [hpsz]
            have HFs := Lib.hid hfs
            have HO := Lib.hid hO
            have HIo := Lib.hid hIo
            have HB2 := Lib.hid hB2
            have hle : g5 + 1 ≤ g5 + 1 := Nat.le_refl _
            generalize foldB ⟨fk, a, b, n, text, keep⟩ pl j = o at HFs HO HIo
            clear hfs hO hIo hB2 hgc hc hpsz
            rcases hcp with rfl | rfl | rfl | rfl | rfl
            · have k1 : wr.cell? ⟨w.heap.size, 1, none⟩ = some (.int .i64 a) := (HB2.out.cell (p := ⟨w.heap.size, 1, none⟩) hlb).trans (cell_of_blk HK.out 1 rfl)
              have z1 := free_of_blk HO.out 1
              have z2 := cell_of_blk HO.out 1 (v := .int .i64 o.a) rfl
              have hn := blk_set (i := 1) HO.out (.int .i64 a)
              have HN := Lib.hid hn
              clear hn
              go_wp2_with fail
              go_roundw
              case rel => exact ⟨j + 1, .slice oad o.keep.length ocap, hjl, by go_num, by rw [HFs.out]; exact HN.out, by rw [HFs.out]; exact HIo.out, HB2.out.setCell hle _, by first | exact hsz2 | simpa using hsz2⟩
              case measure => simp [intOf]; omega
            · have k1 : wr.cell? ⟨w.heap.size, 2, none⟩ = some (.int .i64 b) := (HB2.out.cell (p := ⟨w.heap.size, 2, none⟩) hlb).trans (cell_of_blk HK.out 2 rfl)
              have z1 := free_of_blk HO.out 2
              have z2 := cell_of_blk HO.out 2 (v := .int .i64 o.b) rfl
              have hn := blk_set (i := 2) HO.out (.int .i64 b)
              have HN := Lib.hid hn
              clear hn
              go_wp2_with fail
              go_roundw
              case rel => exact ⟨j + 1, .slice oad o.keep.length ocap, hjl, by go_num, by rw [HFs.out]; exact HN.out, by rw [HFs.out]; exact HIo.out, HB2.out.setCell hle _, by first | exact hsz2 | simpa using hsz2⟩
              case measure => simp [intOf]; omega
            · have k1 : wr.cell? ⟨w.heap.size, 3, none⟩ = some (.int .i64 n) := (HB2.out.cell (p := ⟨w.heap.size, 3, none⟩) hlb).trans (cell_of_blk HK.out 3 rfl)
              have z1 := free_of_blk HO.out 3
              have z2 := cell_of_blk HO.out 3 (v := .int .i64 o.n) rfl
              have hn := blk_set (i := 3) HO.out (.int .i64 n)
              have HN := Lib.hid hn
              clear hn
              go_wp2_with fail
              go_roundw
              case rel => exact ⟨j + 1, .slice oad o.keep.length ocap, hjl, by go_num, by rw [HFs.out]; exact HN.out, by rw [HFs.out]; exact HIo.out, HB2.out.setCell hle _, by first | exact hsz2 | simpa using hsz2⟩
              case measure => simp [intOf]; omega
            · have k1 : wr.cell? ⟨w.heap.size, 4, none⟩ = some (.string text) := (HB2.out.cell (p := ⟨w.heap.size, 4, none⟩) hlb).trans (cell_of_blk HK.out 4 rfl)
              have z1 := free_of_blk HO.out 4
              have z2 := cell_of_blk HO.out 4 (v := .string o.text) rfl
              have hn := blk_set (i := 4) HO.out (.string text)
              have HN := Lib.hid hn
              clear hn
              go_wp2_with fail
              go_roundw
              case rel => exact ⟨j + 1, .slice oad o.keep.length ocap, hjl, by go_num, by rw [HFs.out]; exact HN.out, by rw [HFs.out]; exact HIo.out, HB2.out.setCell hle _, by first | exact hsz2 | simpa using hsz2⟩
              case measure => simp [intOf]; omega
            · have k1 : wr.cell? ⟨w.heap.size, 5, none⟩ = some (.slice kad keep.length kcap) := (HB2.out.cell (p := ⟨w.heap.size, 5, none⟩) hlb).trans (cell_of_blk HK.out 5 rfl)
              have z1 := free_of_blk HO.out 5
              have z2 := cell_of_blk HO.out 5 (v := .slice oad o.keep.length ocap) rfl
              have hn := blk_set (i := 5) HO.out (.slice kad keep.length kcap)
              have HN := Lib.hid hn
              clear hn
              go_wp2_with fail
              go_roundw
              case rel => exact ⟨j + 1, .slice kad keep.length kcap, hjl, by go_num, by rw [HFs.out]; exact HN.out, by rw [HFs.out]; exact HI.out, HB2.out.setCell hle _, by first | exact hsz2 | simpa using hsz2⟩
              case measure => simp [intOf]; omega
          · obtain rfl : j = pl.length := by omega
            have hbn : bareP ⟨fk, a, b, n, text, keep⟩ = foldB ⟨fk, a, b, n, text, keep⟩ pl pl.length := by
              unfold bareP
              rw [show formK (StP.kind ⟨fk, a, b, n, text, keep⟩) = some (fw, pl) from HF2.out, foldB_all]
            have hz := (hB2.block (w.heap.size + 1) (by omega)).trans HZ.out
            generalize foldB ⟨fk, a, b, n, text, keep⟩ pl pl.length = o at hbn hO hIo ⊢
            have p0 := cell_of_blk hO 0 (v := .int .i64 o.kind) rfl
            have p1 := cell_of_blk hO 1 (v := .int .i64 o.a) rfl
            have p2 := cell_of_blk hO 2 (v := .int .i64 o.b) rfl
            have p3 := cell_of_blk hO 3 (v := .int .i64 o.n) rfl
            have p4 := cell_of_blk hO 4 (v := .string o.text) rfl
            have p5 := cell_of_blk hO 5 (v := .slice oad o.keep.length ocap) rfl
            have q0 := cell_of_blk hz 0 (v := .int .i64 0) rfl
            have q1 := cell_of_blk hz 1 (v := .int .i64 0) rfl
            have q2 := cell_of_blk hz 2 (v := .int .i64 0) rfl
            have q3 := cell_of_blk hz 3 (v := .int .i64 0) rfl
            have q4 := cell_of_blk hz 4 (v := .string ⟨#[]⟩) rfl
            have q5 := cell_of_blk hz 5 (v := .slice none 0 0) rfl
            have z0 := free_of_blk hz 0
            have z1 := free_of_blk hz 1
            have z2 := free_of_blk hz 2
            have z3 := free_of_blk hz 3
            have z4 := free_of_blk hz 4
            have z5 := free_of_blk hz 5
            have hBl := HBw.out.trans (hB2.mono (by omega))
            have HBl := Lib.hid hBl
            have HIo := Lib.hid hIo
            have HBn := Lib.hid hbn
            have HZ2 := Lib.hid hz
            have hpi : ((lnB pl).size : Int) = (pl.length : Int) := by rw [hpsz]
            clear hz hO hIo hbn hB2 hBl hpsz
            go_wp2_with fail
            have hbk := blk_set (i := 5) (blk_set (i := 4) (blk_set (i := 3) (blk_set (i := 2) (blk_set (i := 1) (blk_set (i := 0) HZ2.out (.int .i64 o.kind)) (.int .i64 o.a)) (.int .i64 o.b)) (.int .i64 o.n)) (.string o.text)) (.slice oad o.keep.length ocap)
            have hlb : w.heap.size ≤ w.heap.size + 1 := by omega
            refine bodyPost_ret (v := .agg (stepA o (.slice oad o.keep.length ocap))) (results_cell_row rfl _ _ (w.heap.size + 1) TSt _ (0, 0) _ rfl hbk rfl rfl rfl) rfl ?_
            have hB9 := below_set6 HBl.out hlb (.int .i64 o.kind) (.int .i64 o.a) (.int .i64 o.b) (.int .i64 o.n) (.string o.text) (.slice oad o.keep.length ocap)
            exact ⟨.slice oad o.keep.length ocap, by rw [HBn.out], by rw [HBn.out]; exact HIo.out, hB9⟩
      · have heb : ((fk : Int) == kind) = false := beq_eq_false_iff_ne.2 he
        go_wp2_with fail
        go_roundw
        case rel => exact ⟨fk + 1, hlt, by go_num, fun j hj => by
          by_cases hjk : j < fk
          · exact HNo.out j hjk
          · obtain rfl : j = fk := by omega
            exact fun e => he e.symm, HB.out.alloc hsz _, by rw [size_alloc]; omega⟩
        case measure => simp [intOf]; omega
    · obtain rfl : k = 19 := by omega
      clear c0 h1
      have q0 := cell_of_blk h2 0 (v := .int .i64 0) rfl
      have q1 := cell_of_blk h2 1 (v := .int .i64 0) rfl
      have q2 := cell_of_blk h2 2 (v := .int .i64 0) rfl
      have q3 := cell_of_blk h2 3 (v := .int .i64 0) rfl
      have q4 := cell_of_blk h2 4 (v := .string ⟨#[]⟩) rfl
      have q5 := cell_of_blk h2 5 (v := .slice none 0 0) rfl
      have z0 := free_of_blk h2 0
      have z1 := free_of_blk h2 1
      have z2 := free_of_blk h2 2
      have z3 := free_of_blk h2 3
      have z4 := free_of_blk h2 4
      have z5 := free_of_blk h2 5
      have H2 := Lib.hid h2
      have HNo := Lib.hid hno
      clear h2 hno
      go_wp2_with fail
      have hbk := blk_set (i := 5) (blk_set (i := 4) (blk_set (i := 3) (blk_set (i := 2) (blk_set (i := 1) (blk_set (i := 0) H2.out (.int .i64 0)) (.int .i64 0)) (.int .i64 0)) (.int .i64 0)) (.string ⟨#[]⟩)) (.slice none 0 0)
      have hlb : w.heap.size ≤ w.heap.size + 1 := by omega
      have hbn : bareP ⟨kind, a, b, n, text, keep⟩ = zst 0 := by
        unfold bareP
        rw [show formK (StP.kind ⟨kind, a, b, n, text, keep⟩) = none from rf_none HNo.out]
      refine bodyPost_ret (v := .agg (stepA (zst 0) (.slice none 0 0))) (results_cell_row rfl _ _ (w.heap.size + 1) TSt _ (0, 0) _ rfl hbk rfl rfl rfl) rfl ?_
      refine ⟨.slice none 0 0, by rw [hbn], by rw [hbn]; exact ⟨none, 0, rfl, fun i n hn => by simp [zst] at hn⟩, ?_⟩
      have hB9 := HB3.out.trans (HB.out.mono HB3.out.size)
      exact (((((hB9.setCell hlb _).setCell hlb _).setCell hlb _).setCell hlb _).setCell hlb _).setCell hlb _
end Go.Proofs.YtffolbdimkhmmaaDoor
