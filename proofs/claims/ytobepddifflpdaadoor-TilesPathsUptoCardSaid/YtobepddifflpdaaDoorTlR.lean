import Derived.Test.YtobepddifflpdaaDoorTlB
import Derived.Test.YtobepddifflpdaaDoorTlQ
set_option linter.unusedVariables false
namespace Go.Proofs.YtobepddifflpdaaDoor
open Go Go.RowKit Go.Lib

def tileV (l i x : Int) : Value := .agg #[.int .i64 l, .int .i64 i, .int .i64 x]
/-- the answer of the document's Parse. -/
def parseV (p : ByteArray) : Value := match parseT p with
  | some t => .tuple #[tileV t.1 t.2.1 t.2.2, .int .i64 0]
  | none => .tuple #[tileV 0 0 0, .int .i64 3]

theorem digR_le (s : ByteArray) : (digR s).size ≤ s.size := by
  unfold digR
  split
  · exact Nat.zero_le _
  · rw [ByteArray.size_extract]; omega
theorem behind_le {s b r : ByteArray} (h : behindO s b = some r) : r.size ≤ s.size := by
  unfold behindO at h
  split at h
  · obtain rfl := Option.some.inj h
    rw [ByteArray.size_extract]; omega
  · cases h

theorem blk_set {w : World} {b i : Nat} {cs : Array Value} {T : TypeId} {f : Nat × Nat} (h : w.heap[b]? = some (.cells cs T f)) (v : Value) : (w.setCell ⟨b, i, none⟩ v).heap[b]? = some (.cells (cs.setIfInBounds i v) T f) := by
  simp [World.setCell, Array.getElem?_modify, h]
theorem blk_set_other {w : World} {b c i : Nat} {o : Obj} (h : w.heap[b]? = some o) (hn : b ≠ c) (v : Value) : (w.setCell ⟨c, i, none⟩ v).heap[b]? = some o :=
  (Below.heap_setCell w ⟨c, i, none⟩ v b hn).trans h
theorem ItoaOk.later {n : Int} {w w' : World} (h : ItoaOk n w) (k : Below w.heap.size w w') : ItoaOk n w' := fun w2 h2 => h w2 (k.trans (h2.mono k.size))

/-- a Tile in a block of its own. -/
def TileAt (w : World) (b : Nat) (l i x : Int) : Prop := w.heap[b]? = some (.cells #[.int .i64 l, .int .i64 i, .int .i64 x] 28 (0, 0))
theorem TileAt.cells {w : World} {b : Nat} {l i x : Int} (h : TileAt w b l i x) : w.cell? ⟨b, 0, none⟩ = some (.int .i64 l) ∧ w.cell? ⟨b, 1, none⟩ = some (.int .i64 i) ∧ w.cell? ⟨b, 2, none⟩ = some (.int .i64 x) :=
  ⟨cell_of_blk h 0 rfl, cell_of_blk h 1 rfl, cell_of_blk h 2 rfl⟩
theorem TileAt.free {w : World} {b : Nat} {l i x : Int} (h : TileAt w b l i x) (j : Nat) : w.frozen? ⟨b, j, none⟩ = false := free_of_blk h j
theorem TileAt.set3 {w : World} {b : Nat} {l i x : Int} (h : TileAt w b l i x) (l' i' x' : Int) : TileAt (((w.setCell ⟨b, 0, none⟩ (.int .i64 l')).setCell ⟨b, 1, none⟩ (.int .i64 i')).setCell ⟨b, 2, none⟩ (.int .i64 x')) b l' i' x' :=
  blk_set (blk_set (blk_set h _) _) _

theorem fit_bd {l i x : Int} (h : fitT l i x = true) : 0 ≤ l ∧ l ≤ 1099511627776 ∧ 0 ≤ i ∧ i ≤ 1099511627776 ∧ 0 ≤ x ∧ x ≤ 1099511627776 := by
  unfold fitT at h
  simp only [Bool.and_eq_true, decide_eq_true_eq] at h
  omega

theorem parse_ret (p : ByteArray) (a : Act) (w w0 : World) (b : Nat) (l i x e : Int) (h : TileAt w b l i x) (hv : parseV p = .tuple #[tileV l i x, .int .i64 e]) (hb : Below w0.heap.size w0 w)
    (ha : a.tmps[2]?.getD undef = .pointer (some ⟨b, 0, none⟩)) (hc : a.tmps[3]?.getD undef = .int .i64 e) (hd : a.defers = []) :
    bodyPost Tryd.prog Tryd.f33 (fun e w' => e = .returned (parseV p) ∧ Below w0.heap.size w0 w') Exit.ret a w := by
  obtain ⟨c0, c1, c2⟩ := h.cells
  refine bodyPost_ret (v := .tuple #[tileV l i x, .int .i64 e]) (by simp only [results, Tryd.results33]; simp [tileV, go_sem, c0, c1, c2, ha, hc]) hd ⟨by rw [hv], hb⟩

set_option maxHeartbeats 1000000 in
set_option maxRecDepth 100000 in
theorem refparse_any (p : ByteArray) (w : World) (hp : p.size ≤ 1000000000000000) (hI : ∀ n : Int, 0 ≤ n → n ≤ 1099511627776 → ItoaOk n w) :
    Calls Tryd.prog 33 #[.string p] w fun e w' => e = .returned (parseV p) ∧ Below w.heap.size w w' := by
  have HI := Lib.hid hI
  clear hI
  go_enter Tryd.func33, Tryd.ntmps33
  go_wp2_with fail
  refine (behind_any p _ _ hp (by decide)).mono ?_
  rintro e w1 ⟨rfl, rfl⟩
  have hv : ∀ p b, behindR p b = match behindO p b with
    | some r => .tuple #[.string r, .bool true]
    | none => .tuple #[.string ⟨#[]⟩, .bool false] := fun _ _ => rfl
  rw [hv]
  have HV := Lib.hid hv
  clear hv
  have hB : ∀ o : Obj, Below w.heap.size w (w.alloc o) := fun o => (Below.refl _ _).alloc (Nat.le_refl _) _
  cases h1 : behindO p ⟨#[116, 105, 108, 101, 47]⟩ with
  | none =>
    have h1' : behindO p sTile = none := h1
    go_wp2_with fail
    have b0 : TileAt _ _ 0 0 0 := blk_new w (.cells #[.int .i64 0, .int .i64 0, .int .i64 0] 28)
    exact parse_ret p _ _ w _ 0 0 0 3 b0 (by rw [parseV, parseT, h1']) (hB _) rfl rfl rfl
  | some s =>
    have hs := behind_le h1
    have h1' : behindO p sTile = some s := h1
    have H1 := Lib.hid h1'
    clear h1 h1'
    go_wp2_with fail
    refine (digits_any s _ (by omega)).mono ?_
    rintro e w2 ⟨rfl, hb⟩
    have b0 : TileAt w2 w.heap.size 0 0 0 := blk_later (blk_new1 w (.cells #[.int .i64 0, .int .i64 0, .int .i64 0] 28) (.cells #[.int .i64 0, .int .i64 0, .int .i64 4] 28)) hb
    have b1 : TileAt w2 (w.heap.size + 1) 0 0 4 := blk_later (blk_new2 w (.cells #[.int .i64 0, .int .i64 0, .int .i64 0] 28) (.cells #[.int .i64 0, .int .i64 0, .int .i64 4] 28)) hb
    have hsz2 : w.heap.size + 2 ≤ w2.heap.size := by have := hb.size; rwa [size_alloc, size_alloc] at this
    have hB2 := (hB _).alloc (by rw [size_alloc]; omega) _ |>.trans (hb.mono (by rw [size_alloc, size_alloc]; omega))
    have HB2 := Lib.hid hB2
    have k0 := b1.cells.1
    have f0 := b1.free 0
    have B0 := Lib.hid b0
    have B1 := Lib.hid b1
    clear hb b0 b1 hB2
    have hdr := digR_le s
    go_wp2_with fail
    clear k0 f0
    have b0 : TileAt (w2.setCell ⟨w.heap.size + 1, 0, none⟩ (.int .i64 (digV s))) w.heap.size 0 0 0 := blk_set_other B0.out (by omega) _
    have b1 : TileAt (w2.setCell ⟨w.heap.size + 1, 0, none⟩ (.int .i64 (digV s))) (w.heap.size + 1) (digV s) 0 4 := blk_set B1.out _
    have hB3 := HB2.out.setCell (p := ⟨w.heap.size + 1, 0, none⟩) (by show w.heap.size ≤ w.heap.size + 1; omega) (.int .i64 (digV s))
    generalize w2.setCell ⟨w.heap.size + 1, 0, none⟩ (.int .i64 (digV s)) = w3 at b0 b1 hB3 ⊢
    clear B0 B1 HB2
    have HB := Lib.hid hB3
    have B0 := Lib.hid b0
    have B1 := Lib.hid b1
    clear hB3 b0 b1
    refine (behind_any (digR s) _ _ (by omega) (by decide)).mono ?_
    rintro e w4 ⟨rfl, rfl⟩
    rw [HV.out]
    cases h2 : behindO (digR s) ⟨#[47]⟩ with
    | none =>
      have h2' : behindO (digR s) sSlash = none := h2
      obtain ⟨c0, c1, c2⟩ := B0.out.cells
      have f0 := B0.out.free 0
      have f1 := B0.out.free 1
      have f2 := B0.out.free 2
      go_wp2_with fail
      refine parse_ret p _ _ w _ 0 0 0 3 (B0.out.set3 0 0 0) ?_ ?_ rfl rfl rfl
      · rw [parseV, parseT, H1.out]
        simp only
        rw [h2']
      · exact ((HB.out.setCell (p := ⟨_, 0, none⟩) (Nat.le_refl _) _).setCell (p := ⟨_, 1, none⟩) (Nat.le_refl _) _).setCell (p := ⟨_, 2, none⟩) (Nat.le_refl _) _
    | some s2 =>
      have hs2 := behind_le h2
      have h2' : behindO (digR s) sSlash = some s2 := h2
      have H2 := Lib.hid h2'
      clear h2 h2'
      go_wp2_with fail
      refine (digits_any s2 _ (by omega)).mono ?_
      rintro e w5 ⟨rfl, hb⟩
      have hsz4 : w.heap.size + 2 ≤ w4.heap.size := by have := (Array.getElem?_eq_some_iff.1 B1.out).1; omega
      have b0 : TileAt w5 w.heap.size 0 0 0 := blk_later B0.out hb
      have b1 : TileAt w5 (w.heap.size + 1) (digV s) 0 4 := blk_later B1.out hb
      have hsz5 : w.heap.size + 2 ≤ w5.heap.size := by have := hb.size; omega
      have hB5 := HB.out.trans (hb.mono (by omega))
      clear HB B0 B1 hb
      have HB := Lib.hid hB5
      have B0 := Lib.hid b0
      have B1 := Lib.hid b1
      have k1 := b1.cells.2.1
      have f1 := b1.free 1
      clear hB5 b0 b1
      have hdr2 := digR_le s2
      go_wp2_with fail
      clear k1 f1
      have b0 : TileAt (w5.setCell ⟨w.heap.size + 1, 1, none⟩ (.int .i64 (digV s2))) w.heap.size 0 0 0 := blk_set_other B0.out (by omega) _
      have b1 : TileAt (w5.setCell ⟨w.heap.size + 1, 1, none⟩ (.int .i64 (digV s2))) (w.heap.size + 1) (digV s) (digV s2) 4 := blk_set B1.out _
      have hB6 := HB.out.setCell (p := ⟨w.heap.size + 1, 1, none⟩) (by show w.heap.size ≤ w.heap.size + 1; omega) (.int .i64 (digV s2))
      have hsz6 : (w5.setCell ⟨w.heap.size + 1, 1, none⟩ (.int .i64 (digV s2))).heap.size = w5.heap.size := by simp [World.setCell]
      generalize w5.setCell ⟨w.heap.size + 1, 1, none⟩ (.int .i64 (digV s2)) = w6 at b0 b1 hB6 hsz6 ⊢
      clear B0 B1 HB
      have HB := Lib.hid hB6
      have B0 := Lib.hid b0
      have B1 := Lib.hid b1
      clear hB6 b0 b1
      refine (behind_any (digR s2) _ _ (by omega) (by decide)).mono ?_
      rintro e w7 ⟨rfl, rfl⟩
      rw [HV.out]
      cases h3 : behindO (digR s2) ⟨#[46, 112, 47]⟩ with
      | none =>
        have h3' : behindO (digR s2) sP = none := h3
        have H3 := Lib.hid h3'
        clear h3 h3'
        obtain ⟨c0, c1, c2⟩ := B0.out.cells
        have f0 := B0.out.free 0
        have f1 := B0.out.free 1
        have f2 := B0.out.free 2
        obtain ⟨d0, d1, d2⟩ := B1.out.cells
        by_cases hr : digR s2 = ⟨#[]⟩
        · have hr2 : (digR s2).toList.isEmpty = true := by rw [toList_empty, hr]; rfl
          go_wp2_with fail
          refine (refpath_any (digV s) (digV s2) 4 _ ?_ ?_ ?_).mono ?_
          · intro hf
            exact (HI.out _ (fit_bd hf).1 (fit_bd hf).2.1).later HB.out
          · intro hf
            exact (HI.out _ (fit_bd hf).2.2.1 (fit_bd hf).2.2.2.1).later HB.out
          · intro hf
            exact (HI.out _ (fit_bd hf).2.2.2.2.1 (fit_bd hf).2.2.2.2.2).later HB.out
          rintro e w9 ⟨rfl, hb⟩
          have b0 : TileAt w9 w.heap.size 0 0 0 := blk_later B0.out hb
          have b1 : TileAt w9 (w.heap.size + 1) (digV s) (digV s2) 4 := blk_later B1.out hb
          have hB9 := HB.out.trans (hb.mono (by omega))
          clear HB B0 B1 hb c0 c1 c2 d0 d1 d2 f0 f1 f2
          have HB := Lib.hid hB9
          have B0 := Lib.hid b0
          have B1 := Lib.hid b1
          clear hB9 b0 b1
          obtain ⟨c0, c1, c2⟩ := B0.out.cells
          have f0 := B0.out.free 0
          have f1 := B0.out.free 1
          have f2 := B0.out.free 2
          obtain ⟨d0, d1, d2⟩ := B1.out.cells
          by_cases hq : pathT (digV s) (digV s2) 4 = p
          · have hq2 : ((pathT (digV s) (digV s2) 4).toList == p.toList) = true := by rw [toList_eq_iff]; exact decide_eq_true hq
            have HQ := Lib.hid hq
            clear hq
            go_wp2_with fail
            refine parse_ret p _ _ w _ (digV s) (digV s2) 4 0 (B0.out.set3 _ _ _) ?_ ?_ rfl rfl rfl
            · rw [parseV, parseT, H1.out]
              simp only
              rw [H2.out]
              simp only
              rw [H3.out]
              simp only
              rw [if_pos ⟨hr, HQ.out⟩]
            · exact ((HB.out.setCell (p := ⟨_, 0, none⟩) (Nat.le_refl _) _).setCell (p := ⟨_, 1, none⟩) (Nat.le_refl _) _).setCell (p := ⟨_, 2, none⟩) (Nat.le_refl _) _
          · have hq2 : ((pathT (digV s) (digV s2) 4).toList == p.toList) = false := by rw [toList_eq_iff]; exact decide_eq_false hq
            have HQ := Lib.hid hq
            clear hq
            go_wp2_with fail
            refine parse_ret p _ _ w _ 0 0 0 3 (B0.out.set3 0 0 0) ?_ ?_ rfl rfl rfl
            · rw [parseV, parseT, H1.out]
              simp only
              rw [H2.out]
              simp only
              rw [H3.out]
              simp only
              rw [if_neg (fun e => HQ.out e.2)]
            · exact ((HB.out.setCell (p := ⟨_, 0, none⟩) (Nat.le_refl _) _).setCell (p := ⟨_, 1, none⟩) (Nat.le_refl _) _).setCell (p := ⟨_, 2, none⟩) (Nat.le_refl _) _
        · have hr2 : (digR s2).toList.isEmpty = false := by
            rw [toList_empty]
            exact decide_eq_false fun e => hr (ByteArray.size_eq_zero_iff.1 e)
          go_wp2_with fail
          refine parse_ret p _ _ w _ 0 0 0 3 (B0.out.set3 0 0 0) ?_ ?_ rfl rfl rfl
          · rw [parseV, parseT, H1.out]
            simp only
            rw [H2.out]
            simp only
            rw [H3.out]
            simp only
            rw [if_neg (fun e => hr e.1)]
          · exact ((HB.out.setCell (p := ⟨_, 0, none⟩) (Nat.le_refl _) _).setCell (p := ⟨_, 1, none⟩) (Nat.le_refl _) _).setCell (p := ⟨_, 2, none⟩) (Nat.le_refl _) _
      | some q =>
        have hq := behind_le h3
        have h3' : behindO (digR s2) sP = some q := h3
        have H3 := Lib.hid h3'
        clear h3 h3'
        go_wp2_with fail
        refine (digits_any q _ (by omega)).mono ?_
        rintro e w8 ⟨rfl, hb⟩
        have b0 : TileAt w8 w.heap.size 0 0 0 := blk_later B0.out hb
        have b1 : TileAt w8 (w.heap.size + 1) (digV s) (digV s2) 4 := blk_later B1.out hb
        have hsz8 : w.heap.size + 2 ≤ w8.heap.size := by have := hb.size; omega
        have hB8 := HB.out.trans (hb.mono (by omega))
        clear HB B0 B1 hb
        have HB := Lib.hid hB8
        have B0 := Lib.hid b0
        have B1 := Lib.hid b1
        have k1 := b1.cells.2.2
        have f1 := b1.free 2
        clear hB8 b0 b1
        have hdr3 := digR_le q
        obtain ⟨w9', hw9'⟩ : ∃ w9', w9' = w8.setCell ⟨w.heap.size + 1, 2, none⟩ (.int .i64 (digV q)) := ⟨_, rfl⟩
        have b0 : TileAt w9' w.heap.size 0 0 0 := by rw [hw9']; exact blk_set_other B0.out (by omega) _
        have b1 : TileAt w9' (w.heap.size + 1) (digV s) (digV s2) (digV q) := by rw [hw9']; exact blk_set B1.out _
        have hB9 : Below w.heap.size w w9' := by rw [hw9']; exact HB.out.setCell (p := ⟨w.heap.size + 1, 2, none⟩) (by show w.heap.size ≤ w.heap.size + 1; omega) (.int .i64 (digV q))
        have hsz9 : w9'.heap.size = w8.heap.size := by rw [hw9']; simp [World.setCell]
        clear HB
        have HB := Lib.hid hB9
        clear B0 B1
        have B0 := Lib.hid b0
        have B1 := Lib.hid b1
        clear b0 b1 hB9
        subst hw9'
        obtain ⟨c0, c1, c2⟩ := B0.out.cells
        have f0 := B0.out.free 0
        have f1 := B0.out.free 1
        have f2 := B0.out.free 2
        obtain ⟨d0, d1, d2⟩ := B1.out.cells
        by_cases hr : digR q = ⟨#[]⟩
        · have hr2 : (digR q).toList.isEmpty = true := by rw [toList_empty, hr]; rfl
          go_wp2_with fail
          refine (refpath_any (digV s) (digV s2) (digV q) _ ?_ ?_ ?_).mono ?_
          · intro hf
            exact (HI.out _ (fit_bd hf).1 (fit_bd hf).2.1).later HB.out
          · intro hf
            exact (HI.out _ (fit_bd hf).2.2.1 (fit_bd hf).2.2.2.1).later HB.out
          · intro hf
            exact (HI.out _ (fit_bd hf).2.2.2.2.1 (fit_bd hf).2.2.2.2.2).later HB.out
          rintro e w9 ⟨rfl, hb⟩
          have b0 : TileAt w9 w.heap.size 0 0 0 := blk_later B0.out hb
          have b1 : TileAt w9 (w.heap.size + 1) (digV s) (digV s2) (digV q) := blk_later B1.out hb
          have hB9 := HB.out.trans (hb.mono (by omega))
          clear HB B0 B1 hb c0 c1 c2 d0 d1 d2 f0 f1 f2
          have HB := Lib.hid hB9
          have B0 := Lib.hid b0
          have B1 := Lib.hid b1
          clear hB9 b0 b1
          obtain ⟨c0, c1, c2⟩ := B0.out.cells
          have f0 := B0.out.free 0
          have f1 := B0.out.free 1
          have f2 := B0.out.free 2
          obtain ⟨d0, d1, d2⟩ := B1.out.cells
          by_cases hq : pathT (digV s) (digV s2) (digV q) = p
          · have hq2 : ((pathT (digV s) (digV s2) (digV q)).toList == p.toList) = true := by rw [toList_eq_iff]; exact decide_eq_true hq
            have HQ := Lib.hid hq
            clear hq
            go_wp2_with fail
            refine parse_ret p _ _ w _ (digV s) (digV s2) (digV q) 0 (B0.out.set3 _ _ _) ?_ ?_ rfl rfl rfl
            · rw [parseV, parseT, H1.out]
              simp only
              rw [H2.out]
              simp only
              rw [H3.out]
              simp only
              rw [if_pos ⟨hr, HQ.out⟩]
            · exact ((HB.out.setCell (p := ⟨_, 0, none⟩) (Nat.le_refl _) _).setCell (p := ⟨_, 1, none⟩) (Nat.le_refl _) _).setCell (p := ⟨_, 2, none⟩) (Nat.le_refl _) _
          · have hq2 : ((pathT (digV s) (digV s2) (digV q)).toList == p.toList) = false := by rw [toList_eq_iff]; exact decide_eq_false hq
            have HQ := Lib.hid hq
            clear hq
            go_wp2_with fail
            refine parse_ret p _ _ w _ 0 0 0 3 (B0.out.set3 0 0 0) ?_ ?_ rfl rfl rfl
            · rw [parseV, parseT, H1.out]
              simp only
              rw [H2.out]
              simp only
              rw [H3.out]
              simp only
              rw [if_neg (fun e => HQ.out e.2)]
            · exact ((HB.out.setCell (p := ⟨_, 0, none⟩) (Nat.le_refl _) _).setCell (p := ⟨_, 1, none⟩) (Nat.le_refl _) _).setCell (p := ⟨_, 2, none⟩) (Nat.le_refl _) _
        · have hr2 : (digR q).toList.isEmpty = false := by
            rw [toList_empty]
            exact decide_eq_false fun e => hr (ByteArray.size_eq_zero_iff.1 e)
          go_wp2_with fail
          refine parse_ret p _ _ w _ 0 0 0 3 (B0.out.set3 0 0 0) ?_ ?_ rfl rfl rfl
          · rw [parseV, parseT, H1.out]
            simp only
            rw [H2.out]
            simp only
            rw [H3.out]
            simp only
            rw [if_neg (fun e => hr e.1)]
          · exact ((HB.out.setCell (p := ⟨_, 0, none⟩) (Nat.le_refl _) _).setCell (p := ⟨_, 1, none⟩) (Nat.le_refl _) _).setCell (p := ⟨_, 2, none⟩) (Nat.le_refl _) _
end Go.Proofs.YtobepddifflpdaaDoor
