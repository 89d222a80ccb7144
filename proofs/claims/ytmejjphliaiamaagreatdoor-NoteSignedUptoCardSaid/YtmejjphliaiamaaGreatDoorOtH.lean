import Derived.Test.YtmejjphliaiamaaGreatDoorOtC
import Derived.Test.YtmejjphliaiamaaGreatDoorHxP
import Derived.Deep.WholeRow
import Derived.Lib.QuietBelow
import Derived.BigQuiet
set_option linter.unusedVariables false
namespace Go.Proofs.YtmejjphliaiamaaGreatDoor
open Go Go.RowKit Go.Lib Go.Sort

abbrev T18 : TypeId := 145
theorem und18 : Tryz.prog.underlying T18 = some (.array 18 3) := by kernel_rfl
theorem dgV_one (h : ByteArray) : (dgV h).all (·.oneCell') = true := by
  rw [Array.all_eq_true_iff_forall_mem]
  intro x hx
  simp only [dgV, List.mem_toArray, List.mem_map] at hx
  obtain ⟨k, _, rfl⟩ := hx
  rfl
theorem inf18 (h : ByteArray) : (Tryz.prog.info? T18).map (·.size) = some (dgV h).size := by rw [dgV_size]; kernel_rfl
theorem and_16 (n : Nat) (hn : n ≤ 240) : bits BinOp.and IntKind.i64 (n : Int) 15 = (n : Int) % 16 := by
  have : ∀ k : Fin 241, bits BinOp.and IntKind.i64 ((k.1 : Nat) : Int) 15 = ((k.1 : Nat) : Int) % 16 := by decide +kernel
  exact this ⟨n, by omega⟩
/-- a row of 18 numbers, loaded; laid into another row; handed back. -/
theorem wpList_ld18 {ops : Array Oper} {rest : List Oper} {o : Oper} {a : Act} {w : World} {Q : Exit → Act → World → Prop} (hgd : o.guard = none) (x : Operand) (ho : o.op = .load T18 x) (b : Nat) (h : ByteArray) (hx : a.eval x = .pointer (some ⟨b, 0, none⟩)) (hb : w.heap[b]? = some (.cells (dgV h) T18 (0, 0)))
    (k : wpList Tryz.prog ops Q rest (a.put o.dst (.agg (dgV h))) w) : wpList Tryz.prog ops Q (o :: rest) a w :=
  wpList_load_row hgd _ x ho b hx _ (dgV h) (0, 0) _ hb und18 rfl (inf18 h) k
theorem wpList_st18 {ops : Array Oper} {rest : List Oper} {o : Oper} {a : Act} {w : World} {Q : Exit → Act → World → Prop} (hgd : o.guard = none) (x y : Operand) (ho : o.op = .store T18 x y) (b : Nat) (h : ByteArray) (old : Array Value) (hx : a.eval x = .pointer (some ⟨b, 0, none⟩)) (hy : a.eval y = .agg (dgV h)) (hb : w.heap[b]? = some (.cells old T18 (0, 0))) (hold : old.size = 18)
    (k : wpList Tryz.prog ops Q rest (a.put o.dst undef) (w.setRow b (dgV h))) : wpList Tryz.prog ops Q (o :: rest) a w :=
  wpList_store_row hgd T18 x y ho b (dgV h) hx hy T18 old hb (inf18 h) (by rw [hold, dgV_size]) (dgV_one h) k
theorem heap_setRow {w : World} {b : Nat} {cs : Array Value} {T : TypeId} (c' : Array Value) (h : w.heap[b]? = some (.cells cs T (0, 0))) : (w.setRow b c').heap[b]? = some (.cells c' T (0, 0)) := by
  simp only [World.setRow, Array.getElem?_modify, if_true, h, Option.map_some]
theorem below_setRow {B : Nat} {w w' : World} (h : Below B w w') {b : Nat} (hb : B ≤ b) (c' : Array Value) : Below B w (w'.setRow b c') := by
  refine ⟨h.os, h.tape, h.output, ?_, fun k hk => ?_⟩
  · simp only [World.setRow, Array.size_modify]; exact h.size
  · rw [← h.block k hk]
    simp only [World.setRow, Array.getElem?_modify]
    rw [if_neg (by omega)]
theorem byN_extract (h : ByteArray) (j : Nat) (hj : j < 8) (hh : h.size = 32) : (((h.extract 0 8).data.toList.getD j 0).toNat) = byN h j := by
  unfold byN
  congr 1
  simp only [ByteArray.data_extract, Array.toList_extract, List.extract_eq_take_drop, List.drop_zero, Nat.sub_zero, List.getD_eq_getElem?_getD, List.getElem?_take, if_pos hj]
theorem ext8_size (h : ByteArray) (hh : h.size = 32) : (h.extract 0 8).size = 8 := by rw [ByteArray.size_extract, hh]; rfl
def DgRel (h : ByteArray) (b r g : Nat) (w0 : World) (s i : Value) (wr : World) : Prop :=
  ∃ j : Nat, j ≤ 8 ∧ i = .int .i64 j ∧ s = .int .i64 (smN h j) ∧ wr.heap[b]? = some (.cells (dgC h j) T18 (0, 0)) ∧ wr.heap[r]? = some (.cells (dgC h 0) T18 (0, 0)) ∧
    (∀ k, k < 8 → wr.cell? ⟨g, k, none⟩ = some (.int .u8 (byN h k))) ∧ Below w0.heap.size w0 wr

abbrev z18 : Array Value := #[.int .i64 0, .int .i64 0, .int .i64 0, .int .i64 0, .int .i64 0, .int .i64 0, .int .i64 0, .int .i64 0, .int .i64 0, .int .i64 0, .int .i64 0, .int .i64 0, .int .i64 0, .int .i64 0, .int .i64 0, .int .i64 0, .int .i64 0, .int .i64 0]
theorem z18_eq (h : ByteArray) : z18 = dgC h 0 := by rw [dgC_zero]; rfl
/-- a tag of one text, behind two new blocks. -/
theorem tag_one2 (x : Int) (hx : 0 ≤ x ∧ x < 256) (o1 o2 : Obj) (text : ByteArray) (t : TypeId) (ht : text.size ≤ 70368744100000) (w : World) :
    Calls Tryz.prog 180 #[.int .u8 x, .slice (some ⟨w.heap.size + 1 + 1, 0, none⟩) 1 1] (((w.alloc o1).alloc o2).alloc (.cells #[.string text] t)) fun e w' => e = .returned (.string (tagB x [text])) ∧ Below (w.heap.size + 1 + 1) ((w.alloc o1).alloc o2) w' := by
  have h := strs_row #[.string text] t 1 (psL [text]) ((w.alloc o1).alloc o2) (row1 _)
  rw [size_alloc, size_alloc] at h
  refine (tag_any x hx _ 1 1 (psL [text]) _ h (by decide) (by rw [tagN_sz1]; omega)).mono ?_
  rintro e w1 ⟨rfl, hb⟩
  refine ⟨rfl, Below.trans (b := ((w.alloc o1).alloc o2).alloc (.cells #[.string text] t)) ((Below.refl _ _).alloc (by simp) _) (hb.mono (by simp))⟩

set_option maxRecDepth 100000 in
set_option maxHeartbeats 1000000 in
theorem digits_any (text : ByteArray) (ht : text.size ≤ 100000000) (w : World) :
    Calls Tryz.prog 207 #[.string text] w fun e w' => e = .returned (.agg (dgV (txtH text))) ∧ Below w.heap.size w w' := by
  have hi : (Tryz.prog.info? T18).map (·.size) = some 18 := by kernel_rfl
  go_enter Tryz.func207, Tryz.ntmps207
  go_wp2_with fail
  refine (tag_one2 34 (by decide) _ _ text _ (by omega) w).mono ?_
  rintro e w1 ⟨rfl, hb1⟩
  have hB1 : Below w.heap.size w w1 := Below.trans (((Below.refl _ _).alloc (Nat.le_refl _) _).alloc (by simp) _) (hb1.mono (by omega))
  have hr1 : w1.heap[w.heap.size]? = some (.cells z18 T18 (0, 0)) := (hb1.block _ (by omega)).trans (blk_new1 w _ _)
  have hd1 : w1.heap[w.heap.size + 1]? = some (.cells z18 T18 (0, 0)) := (hb1.block _ (by omega)).trans (blk_new2 w _ _)
  have hz : (txtH text).size = 32 := tagB_size _ _
  rw [show tagB 34 [text] = txtH text from rfl]
  generalize hh : txtH text = h at hz ⊢
  have Hh := Lib.hid hh
  clear hh
  rw [z18_eq h] at hr1 hd1
  have HB1 := Lib.hid hB1
  have HR1 := Lib.hid hr1
  have HD1 := Lib.hid hd1
  clear hB1 hr1 hd1 hb1
  go_wp2_with fail
  rw [Lib.run_convert_string_bytes w1 9 47 5 (h.extract 0 8) Tryz.underlying9 Tryz.underlying47 Tryz.underlying5]
  simp only [Result.andThen]
  rw [Oper.upon_value]
  have hsz8 := ext8_size h hz
  have hcell : ∀ j, j < 8 → (Lib.bytesWorld w1 5 (h.extract 0 8)).cell? ⟨w1.heap.size, j, none⟩ = some (.int .u8 (byN h j)) := fun j hj => by
    rw [← byN_extract h j hj hz]
    exact Lib.bytesWorld_cell w1 5 _ j (by rw [hsz8]; exact hj)
  have hbel := Lib.bytesWorld_below w1 5 (h.extract 0 8)
  rw [hsz8]
  generalize Lib.bytesWorld w1 5 (h.extract 0 8) = w2 at hcell hbel ⊢
  have HC := Lib.hid hcell
  have HB2 := Lib.hid (HB1.out.trans (hbel.mono HB1.out.size))
  have HR2 := Lib.hid (blk_later HR1.out hbel)
  have HD2 := Lib.hid (blk_later HD1.out hbel)
  have hlt1 : w.heap.size + 1 < w1.heap.size := (Array.getElem?_eq_some_iff.1 HD1.out).1
  clear hcell hbel HR1 HD1 HB1
  go_wp2_with fail
  go_loopw [4, 13] (fun s i wr => DgRel h (w.heap.size + 1) w.heap.size w1.heap.size w s i wr) (fun _ i _ => 8 - (intOf i).toNat)
  case atStart => exact ⟨0, by decide, rfl, rfl, HD2.out, HR2.out, HC.out, HB2.out⟩
  case round =>
    obtain ⟨j, hj, rfl, rfl, hd, hr, hc, hbel⟩ := hrel
    have HD := Lib.hid hd
    have HR := Lib.hid hr
    have HCC := Lib.hid hc
    have HB := Lib.hid hbel
    clear hd hr hc hbel HD2 HR2 HC HB2
    by_cases hlt : j < 8
    · have hc1 := HCC.out j hlt
      have hb8 := byN_lt h j
      generalize hcc : byN h j = c at hc1 hb8
      have c0 : wr.cell? ⟨w.heap.size + 1, 2 * j, none⟩ = some (.int .i64 (if 2 * j < 2 * j then dgN h (2 * j) else 0 : Nat)) := cell_of_blk HD.out _ (dgC_get h j _ (by omega))
      have c1 : wr.cell? ⟨w.heap.size + 1, 2 * j + 1, none⟩ = some (.int .i64 (if 2 * j + 1 < 2 * j then dgN h (2 * j + 1) else 0 : Nat)) := cell_of_blk HD.out _ (dgC_get h j _ (by omega))
      have f0 := free_of_blk HD.out (2 * j)
      have f1 := free_of_blk HD.out (2 * j + 1)
      go_wp2_with fail
      have hn := dgC_next h j hlt
      rw [hcc] at hn
      have hd3 : ((wr.setCell ⟨w.heap.size + 1, 2 * j, none⟩ (.int .i64 ((c : Int) / 16))).setCell ⟨w.heap.size + 1, 2 * j + 1, none⟩ (.int .i64 ((c : Int) % 16))).heap[w.heap.size + 1]? = some (.cells (dgC h (j + 1)) T18 (0, 0)) := by
        rw [← hn]
        exact blk_set (blk_set HD.out _) _
      have hr3 : ((wr.setCell ⟨w.heap.size + 1, 2 * j, none⟩ (.int .i64 ((c : Int) / 16))).setCell ⟨w.heap.size + 1, 2 * j + 1, none⟩ (.int .i64 ((c : Int) % 16))).heap[w.heap.size]? = some (.cells (dgC h 0) T18 (0, 0)) :=
        blk_set_other (blk_set_other HR.out (by omega) _) (by omega) _
      have hb3 : Below w.heap.size w ((wr.setCell ⟨w.heap.size + 1, 2 * j, none⟩ (.int .i64 ((c : Int) / 16))).setCell ⟨w.heap.size + 1, 2 * j + 1, none⟩ (.int .i64 ((c : Int) % 16))) :=
        (HB.out.setCell (p := ⟨w.heap.size + 1, 2 * j, none⟩) (Nat.le_succ _) _).setCell (p := ⟨w.heap.size + 1, 2 * j + 1, none⟩) (Nat.le_succ _) _
      have hc3 : ∀ k, k < 8 → ((wr.setCell ⟨w.heap.size + 1, 2 * j, none⟩ (.int .i64 ((c : Int) / 16))).setCell ⟨w.heap.size + 1, 2 * j + 1, none⟩ (.int .i64 ((c : Int) % 16))).cell? ⟨w1.heap.size, k, none⟩ = some (.int .u8 (byN h k)) := fun k hk => by
        rw [← HCC.out k hk]
        refine World.cell?_of_block ((Below.heap_setCell _ _ _ _ ?_).trans (Below.heap_setCell _ _ _ _ ?_)) <;> (show w1.heap.size ≠ w.heap.size + 1; omega)
      generalize ((wr.setCell ⟨w.heap.size + 1, 2 * j, none⟩ (.int .i64 ((c : Int) / 16))).setCell ⟨w.heap.size + 1, 2 * j + 1, none⟩ (.int .i64 ((c : Int) % 16))) = w3 at hd3 hr3 hb3 hc3 ⊢
      clear c0 c1 f0 f1 hc1
      have e0 := dgC_get h (j + 1) (2 * j) (by omega)
      have e1 := dgC_get h (j + 1) (2 * j + 1) (by omega)
      rw [if_pos (by omega), dgN_even, hcc] at e0
      rw [if_pos (by omega), dgN_odd, hcc] at e1
      have c0 : w3.cell? ⟨w.heap.size + 1, 2 * j, none⟩ = some (.int .i64 ((c : Int) / 16)) := cell_of_blk hd3 _ e0
      have c1 : w3.cell? ⟨w.heap.size + 1, 2 * j + 1, none⟩ = some (.int .i64 ((c : Int) % 16)) := cell_of_blk hd3 _ e1
      have HD3 := Lib.hid hd3
      have HR3 := Lib.hid hr3
      have HB3 := Lib.hid hb3
      have HC3 := Lib.hid hc3
      have hsm := smN_le h j
      have hsn : smN h (j + 1) = smN h j + (30 - c / 16 - c % 16) := by rw [← hcc]; rfl
      generalize smN h j = sm at hsm hsn ⊢
      clear hd3 hr3 hb3 hc3 e0 e1 hn
      go_big_quiet (fail)
      go_wp2_with fail
      refine ⟨⟨j + 1, hlt, rfl, ?_, HD3.out, HR3.out, HC3.out, ⟨HB3.out.os, HB3.out.tape, HB3.out.output, HB3.out.size, HB3.out.block⟩⟩, ?_⟩
      · congr 1
        rw [hsn]
        omega
      · show 8 - ((j : Int) + 1).toNat < 8 - (j : Int).toNat
        omega
    · obtain rfl : j = 8 := by omega
      have hsm := smN_le h 8
      have c0 := cell_of_blk HD.out _ (dgC_get h 8 16 (by omega))
      have c1 := cell_of_blk HD.out _ (dgC_get h 8 17 (by omega))
      have f0 := free_of_blk HD.out 16
      have f1 := free_of_blk HD.out 17
      have hlast := dgC_last h
      have Hl := Lib.hid hlast
      clear hlast
      generalize smN h 8 = sm at hsm Hl
      have hbit := and_16 sm hsm
      have hd4 : ((wr.setCell ⟨w.heap.size + 1, 16, none⟩ (.int .i64 ((sm : Int) / 16))).setCell ⟨w.heap.size + 1, 17, none⟩ (.int .i64 ((sm : Int) % 16))).heap[w.heap.size + 1]? = some (.cells (dgV h) T18 (0, 0)) := by
        rw [← Hl.out]
        exact blk_set (blk_set HD.out _) _
      have hr4 : ((wr.setCell ⟨w.heap.size + 1, 16, none⟩ (.int .i64 ((sm : Int) / 16))).setCell ⟨w.heap.size + 1, 17, none⟩ (.int .i64 ((sm : Int) % 16))).heap[w.heap.size]? = some (.cells (dgC h 0) T18 (0, 0)) :=
        blk_set_other (blk_set_other HR.out (by omega) _) (by omega) _
      have HD4 := Lib.hid hd4
      have HR4 := Lib.hid hr4
      clear hd4 hr4
      go_wp2_with (first | refine wpList_ld18 rfl (.tmp 3) rfl (w.heap.size + 1) h rfl HD4.out ?_ | refine wpList_st18 rfl (.tmp 2) (.tmp 51) rfl w.heap.size h (dgC h 0) rfl rfl HR4.out (dgC_size h 0) ?_ | fail)
      refine bodyPost_ret (v := .agg (dgV h)) (results_cell_row rfl _ _ w.heap.size T18 (dgV h) (0, 0) _ rfl (heap_setRow _ HR4.out) und18 rfl (inf18 h)) rfl ⟨by rw [Hh.out], below_setRow ?_ (Nat.le_refl _) _⟩
      exact (HB.out.setCell (p := ⟨w.heap.size + 1, 16, none⟩) (Nat.le_succ _) _).setCell (p := ⟨w.heap.size + 1, 17, none⟩) (Nat.le_succ _) _

/-- the answer's tag of one text, behind one new block. -/
theorem rtag_one1 (x : Int) (hx : 0 ≤ x ∧ x < 256) (o1 : Obj) (text : ByteArray) (t : TypeId) (ht : text.size ≤ 70368744100000) (w : World) :
    Calls Tryz.prog 64 #[.int .u8 x, .slice (some ⟨w.heap.size + 1, 0, none⟩) 1 1] ((w.alloc o1).alloc (.cells #[.string text] t)) fun e w' => e = .returned (.string (tagB x [text])) ∧ Below (w.heap.size + 1) (w.alloc o1) w' := by
  have h := strs_row #[.string text] t 1 (psL [text]) (w.alloc o1) (row1 _)
  rw [size_alloc] at h
  refine (reftag_any x hx _ 1 1 (psL [text]) _ h (by decide) (by rw [tagN_sz1]; omega)).mono ?_
  rintro e w1 ⟨rfl, hb⟩
  refine ⟨rfl, Below.trans (b := (w.alloc o1).alloc (.cells #[.string text] t)) ((Below.refl _ _).alloc (by simp) _) (hb.mono (by simp))⟩
def RgRel (h : ByteArray) (b r : Nat) (w0 : World) (s i : Value) (wr : World) : Prop :=
  ∃ j : Nat, j ≤ 8 ∧ i = .int .i64 j ∧ s = .int .i64 (smN h j) ∧ wr.heap[b]? = some (.cells (dgC h j) T18 (0, 0)) ∧ wr.heap[r]? = some (.cells (dgC h 0) T18 (0, 0)) ∧ Below w0.heap.size w0 wr
theorem dgC_set1 (h : ByteArray) (j : Nat) (hj : j < 8) : ((dgC h j).setIfInBounds (2 * j) (.int .i64 (byN h j / 16 : Nat)))[2 * j + 1]? = some (.int .i64 0) := by
  rw [Array.getElem?_setIfInBounds_ne (by omega), dgC_get h j _ (by omega), if_neg (by omega)]
  rfl

set_option maxRecDepth 100000 in
set_option maxHeartbeats 1000000 in
theorem rdigits_any (text : ByteArray) (ht : text.size ≤ 100000000) (w : World) :
    Calls Tryz.prog 122 #[.string text] w fun e w' => e = .returned (.agg (dgV (txtH text))) ∧ Below w.heap.size w w' := by
  go_enter Tryz.func122, Tryz.ntmps122
  go_wp2_with fail
  refine (rtag_one1 34 (by decide) _ text _ (by omega) w).mono ?_
  rintro e w1 ⟨rfl, hb1⟩
  have hB1 : Below w.heap.size w w1 := Below.trans ((Below.refl _ _).alloc (Nat.le_refl _) _) (hb1.mono (by omega))
  have hr1 : w1.heap[w.heap.size]? = some (.cells z18 T18 (0, 0)) := (hb1.block _ (by omega)).trans (blk_new w _)
  have hz : (txtH text).size = 32 := tagB_size _ _
  rw [show tagB 34 [text] = txtH text from rfl]
  generalize hh : txtH text = h at hz ⊢
  have Hh := Lib.hid hh
  clear hh
  rw [z18_eq h] at hr1
  have HB1 := Lib.hid (hB1.alloc (o := .cells z18 T18) hB1.size)
  have HR1 := Lib.hid (blk_alloc hr1 (.cells z18 T18))
  have hd1 : (w1.alloc (.cells z18 T18)).heap[w1.heap.size]? = some (.cells (dgC h 0) T18 (0, 0)) := (blk_new w1 (.cells z18 T18)).trans (by rw [← z18_eq h])
  have HD1 := Lib.hid hd1
  have hlt1 : w.heap.size < w1.heap.size := (Array.getElem?_eq_some_iff.1 hr1).1
  clear hB1 hr1 hb1 hd1
  go_wp2_with fail
  go_loopw [5, 6] (fun s i wr => RgRel h w1.heap.size w.heap.size w s i wr) (fun _ i _ => 8 - (intOf i).toNat)
  case atStart => exact ⟨0, by decide, rfl, rfl, HD1.out, HR1.out, HB1.out⟩
  case round =>
    obtain ⟨j, hj, rfl, rfl, hd, hr, hbel⟩ := hrel
    have HD := Lib.hid hd
    have HR := Lib.hid hr
    have HB := Lib.hid hbel
    clear hd hr hbel HD1 HR1 HB1
    by_cases hlt : j < 8
    · have hi1 : ∀ W, (Instr.index 9 (.string h) (.int .i64 (j : Int))).run Tryz.prog W = .ok (.int .u8 (byN h j)) W := fun W => idx_str h j (by omega) W
      have hb8 := byN_lt h j
      have hs1 := dgC_set1 h j hlt
      have hn := dgC_next h j hlt
      generalize hcc : byN h j = c at hi1 hb8 hs1 hn
      have c0 : wr.cell? ⟨w1.heap.size, 2 * j, none⟩ = some (.int .i64 (if 2 * j < 2 * j then dgN h (2 * j) else 0 : Nat)) := cell_of_blk HD.out _ (dgC_get h j _ (by omega))
      have f0 := free_of_blk HD.out (2 * j)
      have hd2 : (wr.setCell ⟨w1.heap.size, 2 * j, none⟩ (.int .i64 ((c : Int) / 16))).heap[w1.heap.size]? = some (.cells ((dgC h j).setIfInBounds (2 * j) (.int .i64 (c / 16 : Nat))) T18 (0, 0)) := blk_set HD.out _
      have c1 := cell_of_blk hd2 _ hs1
      have f1 := free_of_blk hd2 (2 * j + 1)
      clear hs1
      have hd3 : ((wr.setCell ⟨w1.heap.size, 2 * j, none⟩ (.int .i64 ((c : Int) / 16))).setCell ⟨w1.heap.size, 2 * j + 1, none⟩ (.int .i64 ((c : Int) % 16))).heap[w1.heap.size]? = some (.cells (dgC h (j + 1)) T18 (0, 0)) := by
        rw [← hn]
        exact blk_set hd2 _
      have hr3 : ((wr.setCell ⟨w1.heap.size, 2 * j, none⟩ (.int .i64 ((c : Int) / 16))).setCell ⟨w1.heap.size, 2 * j + 1, none⟩ (.int .i64 ((c : Int) % 16))).heap[w.heap.size]? = some (.cells (dgC h 0) T18 (0, 0)) :=
        blk_set_other (blk_set_other HR.out (by omega) _) (by omega) _
      have hb3 : Below w.heap.size w ((wr.setCell ⟨w1.heap.size, 2 * j, none⟩ (.int .i64 ((c : Int) / 16))).setCell ⟨w1.heap.size, 2 * j + 1, none⟩ (.int .i64 ((c : Int) % 16))) :=
        (HB.out.setCell (p := ⟨w1.heap.size, 2 * j, none⟩) (Nat.le_of_lt hlt1) _).setCell (p := ⟨w1.heap.size, 2 * j + 1, none⟩) (Nat.le_of_lt hlt1) _
      have HD3 := Lib.hid hd3
      have HR3 := Lib.hid hr3
      have HB3 := Lib.hid hb3
      have hsm := smN_le h j
      have hsn : smN h (j + 1) = smN h j + (30 - c / 16 - c % 16) := by rw [← hcc]; rfl
      generalize smN h j = sm at hsm hsn ⊢
      clear hd2 hd3 hr3 hb3 hn
      go_wp2_with fail
      generalize ((wr.setCell ⟨w1.heap.size, 2 * j, none⟩ (.int .i64 ((c : Int) / 16))).setCell ⟨w1.heap.size, 2 * j + 1, none⟩ (.int .i64 ((c : Int) % 16))) = w3 at HD3 HR3 HB3 ⊢
      clear c0 f0 c1 f1
      have e0 := dgC_get h (j + 1) (2 * j) (by omega)
      have e1 := dgC_get h (j + 1) (2 * j + 1) (by omega)
      rw [if_pos (by omega), dgN_even, hcc] at e0
      rw [if_pos (by omega), dgN_odd, hcc] at e1
      have c0 : w3.cell? ⟨w1.heap.size, 2 * j, none⟩ = some (.int .i64 ((c : Int) / 16)) := cell_of_blk HD3.out _ e0
      have c1 : w3.cell? ⟨w1.heap.size, 2 * j + 1, none⟩ = some (.int .i64 ((c : Int) % 16)) := cell_of_blk HD3.out _ e1
      clear e0 e1
      go_big_quiet (fail)
      go_wp2_with fail
      refine ⟨⟨j + 1, hlt, rfl, ?_, HD3.out, HR3.out, ⟨HB3.out.os, HB3.out.tape, HB3.out.output, HB3.out.size, HB3.out.block⟩⟩, ?_⟩
      · congr 1
        rw [hsn]
        omega
      · show 8 - ((j : Int) + 1).toNat < 8 - (j : Int).toNat
        omega
    · obtain rfl : j = 8 := by omega
      have hsm := smN_le h 8
      have c0 := cell_of_blk HD.out _ (dgC_get h 8 16 (by omega))
      have f0 := free_of_blk HD.out 16
      have hlast := dgC_last h
      have hs17 : ((dgC h 8).setIfInBounds 16 (.int .i64 (smN h 8 / 16 : Nat)))[17]? = some (.int .i64 0) := by
        rw [Array.getElem?_setIfInBounds_ne (by decide), dgC_get h 8 17 (by omega)]
        rfl
      generalize smN h 8 = sm at hsm hlast hs17
      have hd3 : (wr.setCell ⟨w1.heap.size, 16, none⟩ (.int .i64 ((sm : Int) / 16))).heap[w1.heap.size]? = some (.cells ((dgC h 8).setIfInBounds 16 (.int .i64 (sm / 16 : Nat))) T18 (0, 0)) := blk_set HD.out _
      have c1 := cell_of_blk hd3 _ hs17
      have f1 := free_of_blk hd3 17
      have hd4 : ((wr.setCell ⟨w1.heap.size, 16, none⟩ (.int .i64 ((sm : Int) / 16))).setCell ⟨w1.heap.size, 17, none⟩ (.int .i64 ((sm : Int) % 16))).heap[w1.heap.size]? = some (.cells (dgV h) T18 (0, 0)) := by
        rw [← hlast]
        exact blk_set hd3 _
      have hr4 : ((wr.setCell ⟨w1.heap.size, 16, none⟩ (.int .i64 ((sm : Int) / 16))).setCell ⟨w1.heap.size, 17, none⟩ (.int .i64 ((sm : Int) % 16))).heap[w.heap.size]? = some (.cells (dgC h 0) T18 (0, 0)) :=
        blk_set_other (blk_set_other HR.out (by omega) _) (by omega) _
      have HD4 := Lib.hid hd4
      have HR4 := Lib.hid hr4
      clear hd4 hr4 hlast hs17 hd3
      go_wp2_with (first | refine wpList_ld18 rfl (.tmp 4) rfl w1.heap.size h rfl HD4.out ?_ | refine wpList_st18 rfl (.tmp 2) (.tmp 50) rfl w.heap.size h (dgC h 0) rfl rfl HR4.out (dgC_size h 0) ?_ | fail)
      refine bodyPost_ret (v := .agg (dgV h)) (results_cell_row rfl _ _ w.heap.size T18 (dgV h) (0, 0) _ rfl (heap_setRow _ HR4.out) und18 rfl (inf18 h)) rfl ⟨by rw [Hh.out], below_setRow ?_ (Nat.le_refl _) _⟩
      exact (HB.out.setCell (p := ⟨w1.heap.size, 16, none⟩) (Nat.le_of_lt hlt1) _).setCell (p := ⟨w1.heap.size, 17, none⟩) (Nat.le_of_lt hlt1) _

def recG (n : Int) (text sig : ByteArray) (i : Nat) : ByteArray := chainN n i (dgT (txtH text) i) (sig.extract (16 * i) (16 * i + 16)) (15 - dgT (txtH text) i)
theorem recB_eq (n : Int) (text sig : ByteArray) : recB n text sig = tagB 35 [allN (recG n text sig) 18] := rfl
theorem recG_size (n : Int) (text sig : ByteArray) (hs : sig.size = 288) (i : Nat) (hi : i < 18) : (recG n text sig i).size = 16 :=
  chainN_size _ _ _ _ (by rw [ByteArray.size_extract]; omega) _
def RrRel (g : Nat → ByteArray) (h : ByteArray) (b : Nat) (w0 : World) (s i : Value) (wr : World) : Prop :=
  ∃ j : Nat, j ≤ 18 ∧ i = .int .i64 j ∧ s = .string (allN g j) ∧ wr.heap[b]? = some (.cells (dgV h) T18 (0, 0)) ∧ Below w0.heap.size w0 wr
/-- the answer's tag of one text, in any world. -/
theorem rtag_one (x : Int) (hx : 0 ≤ x ∧ x < 256) (text : ByteArray) (t : TypeId) (ht : text.size ≤ 70368744100000) (w : World) :
    Calls Tryz.prog 64 #[.int .u8 x, .slice (some ⟨w.heap.size, 0, none⟩) 1 1] (w.alloc (.cells #[.string text] t)) fun e w' => e = .returned (.string (tagB x [text])) ∧ Below w.heap.size w w' := by
  refine (reftag_any x hx _ 1 1 (psL [text]) _ (strs_row #[.string text] t 1 (psL [text]) w (row1 _)) (by decide) (by rw [tagN_sz1]; omega)).mono ?_
  rintro e w1 ⟨rfl, hb⟩
  exact ⟨rfl, ((Below.refl _ _).alloc (Nat.le_refl _) _).trans (hb.mono (by simp))⟩
theorem tag_one (x : Int) (hx : 0 ≤ x ∧ x < 256) (text : ByteArray) (t : TypeId) (ht : text.size ≤ 70368744100000) (w : World) :
    Calls Tryz.prog 180 #[.int .u8 x, .slice (some ⟨w.heap.size, 0, none⟩) 1 1] (w.alloc (.cells #[.string text] t)) fun e w' => e = .returned (.string (tagB x [text])) ∧ Below w.heap.size w w' := by
  refine (tag_any x hx _ 1 1 (psL [text]) _ (strs_row #[.string text] t 1 (psL [text]) w (row1 _)) (by decide) (by rw [tagN_sz1]; omega)).mono ?_
  rintro e w1 ⟨rfl, hb⟩
  exact ⟨rfl, ((Below.refl _ _).alloc (Nat.le_refl _) _).trans (hb.mono (by simp))⟩

set_option maxRecDepth 100000 in
set_option maxHeartbeats 1000000 in
theorem rrecover_any (n : Int) (text sig : ByteArray) (hn : 0 ≤ n ∧ n < 65536) (ht : text.size ≤ 100000000) (hs : sig.size = 288) (w : World) :
    Calls Tryz.prog 183 #[.int .i64 n, .string text, .string sig] w fun e w' => e = .returned (.tuple #[.string (recB n text sig), .int .i64 0]) ∧ Below w.heap.size w w' := by
  rw [recB_eq]
  have hG := fun i hi => recG_size n text sig hs i hi
  have hG2 : ∀ i : Nat, recG n text sig i = chainN n i (dgT (txtH text) i : Nat) (sig.extract (16 * i) (16 * i + 16)) ((15 : Int) - (dgT (txtH text) i : Nat)).toNat := fun i => by
    unfold recG
    congr 1
    omega
  have hD := rdigits_any text ht
  generalize recG n text sig = g at hG hG2 ⊢
  generalize txtH text = h at hG2 hD
  have HG := Lib.hid hG
  have HG2 := Lib.hid hG2
  have HD := Lib.hid hD
  clear hG hG2 hD
  go_enter Tryz.func183, Tryz.ntmps183
  have h1 : ¬ n < 0 := by omega
  have h2 : ¬ (65535 : Int) < n := by omega
  have h3 : (sig.size : Int) = 288 := by omega
  go_wp2_with fail
  refine (HD.out w).mono ?_
  rintro e w1 ⟨rfl, hb1⟩
  have HB1 := Lib.hid hb1
  have HZ : Hid ((w1.alloc (.cells z18 T18)).heap[w1.heap.size]? = some (.cells z18 T18 (0, 0))) := Lib.hid (blk_new _ _)
  clear hb1 HD
  go_wp2_with (first | refine wpList_st18 rfl (.tmp 8) (.tmp 21) rfl w1.heap.size h z18 rfl rfl HZ.out rfl ?_ | fail)
  have hb2 : Below w.heap.size w ((w1.alloc (.cells z18 T18)).setRow w1.heap.size (dgV h)) := below_setRow (HB1.out.alloc HB1.out.size _) HB1.out.size _
  have hd2 : ((w1.alloc (.cells z18 T18)).setRow w1.heap.size (dgV h)).heap[w1.heap.size]? = some (.cells (dgV h) T18 (0, 0)) := heap_setRow _ HZ.out
  generalize (w1.alloc (.cells z18 T18)).setRow w1.heap.size (dgV h) = w2 at hb2 hd2 ⊢
  have HB2 := Lib.hid hb2
  have HD2 := Lib.hid hd2
  generalize w1.heap.size = b at HD2 ⊢
  clear hb2 hd2 HZ HB1
  go_loopw [9, 10] (fun s i wr => RrRel g h b w s i wr) (fun _ i _ => 18 - (intOf i).toNat)
  case atStart => exact ⟨0, by decide, rfl, rfl, HD2.out, HB2.out⟩
  case round =>
    obtain ⟨j, hj, rfl, rfl, hd, hbel⟩ := hrel
    have HD3 := Lib.hid hd
    have HB3 := Lib.hid hbel
    clear hd hbel HD2 HB2
    have hsz := allN_size g j (fun i hi => HG.out i (by omega))
    by_cases hlt : j < 18
    · have c0 : wr.cell? ⟨b, j, none⟩ = some (.int .i64 (dgT h j)) := cell_of_blk HD3.out _ (dgV_get h j hlt)
      have hgj := HG2.out j
      have hgs := HG.out j hlt
      have hlt16 := dgT_lt h j
      have c0r := cell_regrown c0
      have hxs : (sig.extract (16 * j) (16 * j + 16)).size = 16 := by rw [ByteArray.size_extract]; omega
      have t1 : (16 * (j : Int)).toNat = 16 * j := by omega
      have t2 : (16 * (j : Int) + 16).toNat = 16 * j + 16 := by omega
      have hw1 : IntKind.i64.wrap (16 * (j : Int)) = 16 * (j : Int) := IntWalk.i64_in _ (by omega)
      have hw2 : IntKind.i64.wrap (16 * (j : Int) + 16) = 16 * (j : Int) + 16 := IntWalk.i64_in _ (by omega)
      have hA1 : (0 : Int) ≤ 16 * (j : Int) + 16 := by omega
      have hA2 : 16 * (j : Int) + 16 ≤ 288 := by omega
      have hA3 : (0 : Int) ≤ 16 * (j : Int) := by omega
      have hA4 : 16 * (j : Int) ≤ 16 * (j : Int) + 16 := by omega
      have hA5 : ¬ 9223372036854775807 < 16 * j + 16 := by omega
      generalize hxj : sig.extract (16 * j) (16 * j + 16) = xj at hgj hxs
      generalize dgT h j = dj at c0 c0r hgj hlt16
      have cP : ∀ dd os, Calls Tryz.prog 119 #[.int .i64 n, .int .i64 j, .int .i64 dj, .int .i64 15, .string xj] (grow (redrawn wr dd) os) fun e w'' => e = .returned (.string (g j)) ∧ ∃ p : Regrown, w'' = grow (redrawn wr p.d) p.os :=
        fun dd os => Calls.regrown_of (by
          rw [hgj]
          exact links_any n j dj 15 xj hn ⟨by omega, by omega⟩ (by omega) (by decide) (by omega) _)
      have HS : ¬ 9223372036854775807 < (allN g j).size + (g j).size := by omega
      clear hgj
      have hY : allN g (j + 1) = allN g j ++ g j := rfl
      have HY := Lib.hid hY
      clear hY
      generalize allN g j = aj at hsz HS HY ⊢
      generalize g j = gj at cP hgs HS HY ⊢
      go_wp2_with fail
      refine wp_region_quiet_below (by kernel_rfl) (by kernel_rfl) ?_
      repeat quiet_step (with_reducible exact cP _ _)
      refine wpQuiet_nil ?_
      intro w5 hw5
      obtain ⟨⟨dq, osq⟩, hw''⟩ := hw5
      have hb5 : Below wr.heap.size wr w5 := by rw [hw'']; exact below_regrown wr dq osq
      have HB5 := Lib.hid (HB3.out.trans (hb5.mono HB3.out.size))
      have HD5 := Lib.hid (blk_later HD3.out hb5)
      clear hw'' hb5 HD3 HB3 c0 c0r cP
      go_wp2_with fail
      refine ⟨⟨j + 1, hlt, rfl, ?_, HD5.out, HB5.out⟩, ?_⟩
      · rw [← HY.out]
      · show 18 - ((j : Int) + 1).toNat < 18 - (j : Int).toNat
        omega
    · obtain rfl : j = 18 := by omega
      generalize hal : allN g 18 = al at hsz ⊢
      have Hal := Lib.hid hal
      clear hal
      go_wp2_with fail
      refine (rtag_one 35 (by decide) al _ (by omega) wr).mono ?_
      rintro e w6 ⟨rfl, hb6⟩
      have HB6 := Lib.hid (HB3.out.trans (hb6.mono HB3.out.size))
      clear hb6
      go_wp2_with fail
      go_ret2
      have hf := Hal.out
      subst hf
      exact ⟨rfl, HB6.out⟩

def pubG (seed : ByteArray) (n : Int) (i : Nat) : ByteArray := chainN n i 0 (secB seed n i) 15
def sigG (seed : ByteArray) (n : Int) (text : ByteArray) (i : Nat) : ByteArray := chainN n i 0 (secB seed n i) (dgT (txtH text) i)
theorem pubB_eq (seed : ByteArray) (n : Int) : pubB seed n = tagB 35 [allN (pubG seed n) 18] := rfl
theorem sigB_eq (seed : ByteArray) (n : Int) (text : ByteArray) : sigB seed n text = allN (sigG seed n text) 18 := rfl
theorem pubG_size (seed : ByteArray) (n : Int) (i : Nat) : (pubG seed n i).size = 16 := chainN_size _ _ _ _ (secB_size _ _ _) _
theorem sigG_size (seed : ByteArray) (n : Int) (text : ByteArray) (i : Nat) : (sigG seed n text i).size = 16 := chainN_size _ _ _ _ (secB_size _ _ _) _
def PbRel (g : Nat → ByteArray) (w0 : World) (s i : Value) (wr : World) : Prop :=
  ∃ j : Nat, j ≤ 18 ∧ i = .int .i64 j ∧ s = .string (allN g j) ∧ Below w0.heap.size w0 wr

set_option maxRecDepth 100000 in
set_option maxHeartbeats 1000000 in
theorem rpublic_any (seed : ByteArray) (n : Int) (hn : 0 ≤ n ∧ n < 65536) (hs : seed.size ≤ 1000000) (w : World) :
    Calls Tryz.prog 63 #[.string seed, .int .i64 n] w fun e w' => e = .returned (.tuple #[.string (pubB seed n), .int .i64 0]) ∧ Below w.heap.size w w' := by
  rw [pubB_eq]
  have hG := pubG_size seed n
  have hG2 : ∀ i : Nat, pubG seed n i = chainN n i 0 (secB seed n i) ((15 : Int) - 0).toNat := fun i => rfl
  generalize pubG seed n = g at hG hG2 ⊢
  have HG := Lib.hid hG
  have HG2 := Lib.hid hG2
  clear hG hG2
  go_enter Tryz.func63, Tryz.ntmps63
  have h1 : ¬ n < 0 := by omega
  have h2 : ¬ (65535 : Int) < n := by omega
  go_wp2_with fail
  go_loopw [6, 7] (fun s i wr => PbRel g w s i wr) (fun _ i _ => 18 - (intOf i).toNat)
  case atStart => exact ⟨0, by decide, rfl, rfl, Below.refl _ _⟩
  case round =>
    obtain ⟨j, hj, rfl, rfl, hbel⟩ := hrel
    have HB3 := Lib.hid hbel
    clear hbel
    have hsz := allN_size g j (fun i hi => HG.out i)
    by_cases hlt : j < 18
    · have hgj := HG2.out j
      have hgs := HG.out j
      have hA5 : ¬ 9223372036854775807 < 16 * j + 16 := by omega
      have hY : allN g (j + 1) = allN g j ++ g j := rfl
      have HY := Lib.hid hY
      clear hY
      have HS := Lib.hid (rsecret_any seed n j hn ⟨by omega, by omega⟩ hs)
      have HL := Lib.hid (links_any n j 0 15 (secB seed n j) hn ⟨by omega, by omega⟩ (by decide) (by decide) (by rw [secB_size]; decide))
      rw [← hgj] at HL
      clear hgj
      generalize secB seed n j = sj at HS HL
      generalize allN g j = aj at hsz HY ⊢
      generalize g j = gj at HL hgs HY ⊢
      go_wp2_with fail
      refine (HS.out wr).mono ?_
      rintro e w4 ⟨rfl, hb4⟩
      have HB4 := Lib.hid (HB3.out.trans (hb4.mono HB3.out.size))
      clear hb4
      go_wp2_with fail
      refine (HL.out w4).mono ?_
      rintro e w5 ⟨rfl, hb5⟩
      have HB5 := Lib.hid (HB4.out.trans (hb5.mono HB4.out.size))
      clear hb5
      go_wp2_with fail
      refine ⟨⟨j + 1, hlt, rfl, ?_, HB5.out⟩, ?_⟩
      · rw [← HY.out]
      · show 18 - ((j : Int) + 1).toNat < 18 - (j : Int).toNat
        omega
    · obtain rfl : j = 18 := by omega
      generalize hal : allN g 18 = al at hsz ⊢
      have Hal := Lib.hid hal
      clear hal
      go_wp2_with fail
      refine (rtag_one 35 (by decide) al _ (by omega) wr).mono ?_
      rintro e w6 ⟨rfl, hb6⟩
      have HB6 := Lib.hid (HB3.out.trans (hb6.mono HB3.out.size))
      clear hb6
      go_wp2_with fail
      go_ret2
      have hf := Hal.out
      subst hf
      exact ⟨rfl, HB6.out⟩

set_option maxRecDepth 100000 in
set_option maxHeartbeats 1000000 in
theorem rsign_any (seed : ByteArray) (n : Int) (text : ByteArray) (hn : 0 ≤ n ∧ n < 65536) (hs : seed.size ≤ 1000000) (ht : text.size ≤ 100000000) (w : World) :
    Calls Tryz.prog 66 #[.string seed, .int .i64 n, .string text] w fun e w' => e = .returned (.tuple #[.string (sigB seed n text), .int .i64 0]) ∧ Below w.heap.size w w' := by
  rw [sigB_eq]
  have hG := sigG_size seed n text
  have hG2 : ∀ i : Nat, sigG seed n text i = chainN n i 0 (secB seed n i) ((dgT (txtH text) i : Nat) - (0 : Int)).toNat := fun i => by
    unfold sigG
    congr 1
  have hD := rdigits_any text ht
  generalize sigG seed n text = g at hG hG2 ⊢
  generalize txtH text = h at hG2 hD
  have HG := Lib.hid hG
  have HG2 := Lib.hid hG2
  have HD := Lib.hid hD
  clear hG hG2 hD
  go_enter Tryz.func66, Tryz.ntmps66
  have h1 : ¬ n < 0 := by omega
  have h2 : ¬ (65535 : Int) < n := by omega
  go_wp2_with fail
  refine (HD.out w).mono ?_
  rintro e w1 ⟨rfl, hb1⟩
  have HB1 := Lib.hid hb1
  have HZ : Hid ((w1.alloc (.cells z18 T18)).heap[w1.heap.size]? = some (.cells z18 T18 (0, 0))) := Lib.hid (blk_new _ _)
  clear hb1 HD
  go_wp2_with (first | refine wpList_st18 rfl (.tmp 8) (.tmp 18) rfl w1.heap.size h z18 rfl rfl HZ.out rfl ?_ | fail)
  have hb2 : Below w.heap.size w ((w1.alloc (.cells z18 T18)).setRow w1.heap.size (dgV h)) := below_setRow (HB1.out.alloc HB1.out.size _) HB1.out.size _
  have hd2 : ((w1.alloc (.cells z18 T18)).setRow w1.heap.size (dgV h)).heap[w1.heap.size]? = some (.cells (dgV h) T18 (0, 0)) := heap_setRow _ HZ.out
  generalize (w1.alloc (.cells z18 T18)).setRow w1.heap.size (dgV h) = w2 at hb2 hd2 ⊢
  have HB2 := Lib.hid hb2
  have HD2 := Lib.hid hd2
  generalize w1.heap.size = b at HD2 ⊢
  clear hb2 hd2 HZ HB1
  go_loopw [9, 10] (fun s i wr => RrRel g h b w s i wr) (fun _ i _ => 18 - (intOf i).toNat)
  case atStart => exact ⟨0, by decide, rfl, rfl, HD2.out, HB2.out⟩
  case round =>
    obtain ⟨j, hj, rfl, rfl, hd, hbel⟩ := hrel
    have HD3 := Lib.hid hd
    have HB3 := Lib.hid hbel
    clear hd hbel HD2 HB2
    have hsz := allN_size g j (fun i hi => HG.out i)
    by_cases hlt : j < 18
    · have c0 : wr.cell? ⟨b, j, none⟩ = some (.int .i64 (dgT h j)) := cell_of_blk HD3.out _ (dgV_get h j hlt)
      have hgj := HG2.out j
      have hgs := HG.out j
      have hlt16 := dgT_lt h j
      have c0r := cell_regrown c0
      have hA5 : ¬ 9223372036854775807 < 16 * j + 16 := by omega
      have hss := secB_size seed n j
      have hSe := rsecret_any seed n j hn ⟨by omega, by omega⟩ hs
      generalize secB seed n j = sj at hgj hss hSe
      generalize dgT h j = dj at c0 c0r hgj hlt16
      have cS : ∀ dd os, Calls Tryz.prog 120 #[.string seed, .int .i64 n, .int .i64 j] (grow (redrawn wr dd) os) fun e w'' => e = .returned (.string sj) ∧ ∃ p : Regrown, w'' = grow (redrawn wr p.d) p.os :=
        fun dd os => Calls.regrown_of (hSe _)
      have cP : ∀ dd os, Calls Tryz.prog 119 #[.int .i64 n, .int .i64 j, .int .i64 0, .int .i64 dj, .string sj] (grow (redrawn wr dd) os) fun e w'' => e = .returned (.string (g j)) ∧ ∃ p : Regrown, w'' = grow (redrawn wr p.d) p.os :=
        fun dd os => Calls.regrown_of (by
          rw [hgj]
          exact links_any n j 0 dj sj hn ⟨by omega, by omega⟩ (by decide) (by omega) (by omega) _)
      clear hgj hSe
      have hY : allN g (j + 1) = allN g j ++ g j := rfl
      have HY := Lib.hid hY
      clear hY
      generalize allN g j = aj at hsz HY ⊢
      generalize g j = gj at cP hgs HY ⊢
      go_wp2_with fail
      refine wp_region_quiet_below (by kernel_rfl) (by kernel_rfl) ?_
      repeat quiet_step (first | with_reducible exact cS _ _ | with_reducible exact cP _ _)
      refine wpQuiet_nil ?_
      intro w5 hw5
      obtain ⟨⟨dq, osq⟩, hw''⟩ := hw5
      have hb5 : Below wr.heap.size wr w5 := by rw [hw'']; exact below_regrown wr dq osq
      have HB5 := Lib.hid (HB3.out.trans (hb5.mono HB3.out.size))
      have HD5 := Lib.hid (blk_later HD3.out hb5)
      clear hw'' hb5 HD3 HB3 c0 c0r cP cS
      go_wp2_with fail
      refine ⟨⟨j + 1, hlt, rfl, ?_, HD5.out, HB5.out⟩, ?_⟩
      · rw [← HY.out]
      · show 18 - ((j : Int) + 1).toNat < 18 - (j : Int).toNat
        omega
    · obtain rfl : j = 18 := by omega
      generalize hal : allN g 18 = al at hsz ⊢
      have Hal := Lib.hid hal
      clear hal
      go_wp2_with fail
      go_ret2
      have hf := Hal.out
      subst hf
      exact ⟨rfl, HB3.out⟩
end Go.Proofs.YtmejjphliaiamaaGreatDoor
