import Derived.Test.YtobepddifflpdaaMnA
set_option linter.unusedVariables false
namespace Go.Proofs.Ytobepddifflpdaa
open Go Go.RowKit Go.Lib

/-! ### the ask in a packet is answered -/
def PackAt (w : World) (b : Nat) (f t : Int) (s : ByteArray) : Prop := w.heap[b]? = some (.cells #[.int .i64 f, .int .i64 t, .string s] 51 (0, 0))
theorem PackAt.cells {w : World} {b : Nat} {f t : Int} {s : ByteArray} (h : PackAt w b f t s) :
    (w.cell? ⟨b, 0, none⟩ = some (.int .i64 f) ∧ w.cell? ⟨b, 1, none⟩ = some (.int .i64 t) ∧ w.cell? ⟨b, 2, none⟩ = some (.string s)) ∧ ∀ j, w.frozen? ⟨b, j, none⟩ = false :=
  ⟨⟨cell_of_blk h 0 rfl, cell_of_blk h 1 rfl, cell_of_blk h 2 rfl⟩, fun j => free_of_blk h j⟩
theorem PackAt.set3 {w : World} {b : Nat} {f t : Int} {s : ByteArray} (h : PackAt w b f t s) (f' t' : Int) (s' : ByteArray) : PackAt (((w.setCell ⟨b, 0, none⟩ (.int .i64 f')).setCell ⟨b, 1, none⟩ (.int .i64 t')).setCell ⟨b, 2, none⟩ (.string s')) b f' t' s' :=
  blk_set (blk_set (blk_set h _) _) _
theorem below_s3 {B b : Nat} {w0 w : World} (h : Below B w0 w) (hb : B ≤ b) (x y z : Value) : Below B w0 (((w.setCell ⟨b, 0, none⟩ x).setCell ⟨b, 1, none⟩ y).setCell ⟨b, 2, none⟩ z) :=
  ((h.setCell (p := ⟨b, 0, none⟩) hb _).setCell (p := ⟨b, 1, none⟩) hb _).setCell (p := ⟨b, 2, none⟩) hb _
def packV (f t : Int) (s : ByteArray) (ok : Bool) : Value := .tuple #[.agg #[.int .i64 f, .int .i64 t, .string s], .bool ok]
theorem pack_ret {fn : Func} {R : Value} (a : Act) (w w0 : World) (b : Nat) (f t : Int) (s : ByteArray) (ok : Bool) (h : PackAt w b f t s) (hR : R = packV f t s ok) (hb : Below w0.heap.size w0 w)
    (hf : fn.results = #[.cell 4 51, .tmp 5])
    (ha : a.tmps[4]?.getD undef = .pointer (some ⟨b, 0, none⟩)) (hc : a.tmps[5]?.getD undef = .bool ok) (hd : a.defers = []) :
    bodyPost Try.prog fn (fun e w' => e = .returned R ∧ Below w0.heap.size w0 w') Exit.ret a w := by
  obtain ⟨⟨c0, c1, c2⟩, -⟩ := h.cells
  subst hR
  refine bodyPost_ret (v := packV f t s ok) (by simp only [results, hf]; simp [packV, go_sem, c0, c1, c2, ha, hc]) hd ⟨rfl, hb⟩

set_option maxRecDepth 100000 in
set_option maxHeartbeats 1000000 in
theorem handle_bad (mv : Option Addr) (f t : Int) (s : ByteArray) (w : World) (hs : s.size ≤ 9223372036854775807) (hb : askBad s) :
    Calls Try.prog 15 #[.pointer mv, .agg #[.int .i64 f, .int .i64 t, .string s]] w fun e w' => e = .returned (packV 0 0 ⟨#[]⟩ false) ∧ Below w.heap.size w w' := by
  have HC := Lib.hid (fun W => readask_any s W hs)
  have hv : askV s = .tuple #[.agg #[.int .i64 0, .string ⟨#[]⟩, .int .i64 0, .int .i64 0], .int .i64 3] := if_pos hb
  have HV := Lib.hid hv
  clear hv hb
  go_enter Try.func15, Try.ntmps15
  go_wp2_with fail
  refine (HC.out _).mono ?_
  rw [HV.out]
  rintro e w1 ⟨rfl, hb⟩
  have P1 : PackAt w1 (w.heap.size + 1) 0 0 ⟨#[]⟩ := blk_later (blk_new2 _ _ _) hb
  have K1 : Below w.heap.size w w1 := (((Below.refl w.heap.size w).alloc (Nat.le_refl _) _).alloc (by rw [size_alloc]; omega) _).trans (hb.mono (by rw [size_alloc, size_alloc]; omega))
  have hl1 : w.heap.size + 1 < w1.heap.size := (Array.getElem?_eq_some_iff.1 P1).1
  obtain ⟨⟨b0, b1, b2⟩, bf⟩ := PackAt.cells P1
  have bf0 := bf 0
  have bf1 := bf 1
  have bf2 := bf 2
  clear bf
  have HP1 := Lib.hid P1
  have HK1 := Lib.hid K1
  clear hb P1 K1 HC
  go_wp2_with fail
  have hA := blk_alloc (HP1.out.set3 0 0 ⟨#[]⟩) (.cells #[.int .i64 0, .string ⟨#[]⟩, .int .i64 0, .int .i64 0] 33)
  have hB0 := below_s3 HK1.out (Nat.le_succ w.heap.size) (.int .i64 0) (.int .i64 0) (.string ⟨#[]⟩)
  have hB := hB0.alloc hB0.size (.cells #[.int .i64 0, .string ⟨#[]⟩, .int .i64 0, .int .i64 0] 33)
  exact pack_ret _ _ w (w.heap.size + 1) 0 0 ⟨#[]⟩ false hA rfl hB rfl rfl rfl rfl

set_option maxRecDepth 100000 in
set_option maxHeartbeats 1000000 in
theorem handle_ok (mv : Option Addr) (f t : Int) (s : ByteArray) (w : World) (hs : s.size ≤ 9223372036854775807) (hb : ¬ askBad s) (id e z : Int) (d : ByteArray)
    (hid : -9223372036854775808 ≤ id ∧ id ≤ 9223372036854775807) (he : -9223372036854775808 ≤ e ∧ e ≤ 9223372036854775807) (hz : -9223372036854775808 ≤ z ∧ z ≤ 9223372036854775807) (hd : d.size ≤ 70368744000000)
    (hA : ∀ W, Below w.heap.size w W → Calls Try.prog 8 #[.pointer mv, askAgg s] W (RetB (.agg #[.int .i64 id, .int .i64 e, .int .i64 z, .string d]) W)) :
    Calls Try.prog 15 #[.pointer mv, .agg #[.int .i64 f, .int .i64 t, .string s]] w fun en w' => en = .returned (packV t f (repO id e z d).1 true) ∧ Below w.heap.size w w' := by
  have HC := Lib.hid (fun W => readask_any s W hs)
  have hv : askV s = .tuple #[askAgg s, .int .i64 0] := if_neg hb
  have HV := Lib.hid hv
  have HL := Lib.hid (fun W => layreply_any id e z d W hid he hz hd)
  have HA := Lib.hid hA
  clear hv hb hA
  go_enter Try.func15, Try.ntmps15
  go_wp2_with fail
  refine (HC.out _).mono ?_
  rw [HV.out]
  unfold askAgg
  rintro e' w1 ⟨rfl, hb⟩
  have Q1 : PackAt w1 w.heap.size f t s := blk_later (blk_new1 _ _ _) hb
  have P1 : PackAt w1 (w.heap.size + 1) 0 0 ⟨#[]⟩ := blk_later (blk_new2 _ _ _) hb
  have K1 : Below w.heap.size w w1 := (((Below.refl w.heap.size w).alloc (Nat.le_refl _) _).alloc (by rw [size_alloc]; omega) _).trans (hb.mono (by rw [size_alloc, size_alloc]; omega))
  have hl1 : w.heap.size + 1 < w1.heap.size := (Array.getElem?_eq_some_iff.1 P1).1
  have HP1 := Lib.hid P1
  have HQ1 := Lib.hid Q1
  have HK1 := Lib.hid K1
  clear hb P1 Q1 K1 HC
  go_wp2_with fail
  refine (HA.out _ (HK1.out.alloc HK1.out.size _)).mono ?_
  rintro e' w2 ⟨rfl, hb⟩
  have P2 : PackAt w2 (w.heap.size + 1) 0 0 ⟨#[]⟩ := blk_later (blk_alloc HP1.out _) hb
  have Q2 : PackAt w2 w.heap.size f t s := blk_later (blk_alloc HQ1.out _) hb
  have K2 : Below w.heap.size w w2 := (HK1.out.alloc HK1.out.size _).trans (hb.mono (by rw [size_alloc]; exact Nat.le_succ_of_le HK1.out.size))
  have HP2 := Lib.hid P2
  have HQ2 := Lib.hid Q2
  have HK2 := Lib.hid K2
  clear hb P2 Q2 K2 HP1 HQ1 HK1 HA hl1
  go_wp2_with fail
  refine (HL.out _).mono ?_
  rintro e' w3 ⟨rfl, hb⟩
  have P3 : PackAt w3 (w.heap.size + 1) 0 0 ⟨#[]⟩ := blk_later HP2.out hb
  have Q3 : PackAt w3 w.heap.size f t s := blk_later HQ2.out hb
  have K3 : Below w.heap.size w w3 := HK2.out.trans (hb.mono HK2.out.size)
  obtain ⟨⟨c0, c1, c2⟩, cf⟩ := P3.cells
  obtain ⟨⟨d0, d1, d2⟩, -⟩ := Q3.cells
  have f0 := cf 0
  have f1 := cf 1
  have f2 := cf 2
  have HP3 := Lib.hid P3
  have HK3 := Lib.hid K3
  clear hb P3 Q3 K3 HP2 HQ2 HK2 HL cf
  go_wp2_with fail
  exact pack_ret _ _ w (w.heap.size + 1) _ _ _ true (HP3.out.set3 _ _ _) rfl (below_s3 HK3.out (Nat.le_succ _) _ _ _) rfl rfl rfl rfl
end Go.Proofs.Ytobepddifflpdaa
