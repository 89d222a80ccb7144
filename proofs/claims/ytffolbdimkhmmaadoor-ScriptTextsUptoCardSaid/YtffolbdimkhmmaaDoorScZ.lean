import Derived.Test.YtffolbdimkhmmaaDoorScV
import Derived.Test.YtffolbdimkhmmaaDoorQt
set_option linter.unusedVariables false
set_option linter.unusedSimpArgs false
namespace Go.Proofs.YtffolbdimkhmmaaDoor
open Go Go.RowKit Go.Lib

/-! ### two lists that hold the same steps -/
def SmRel (n : Nat) (w : World) (i : Value) (wr : World) : Prop := ∃ k : Nat, k ≤ n ∧ i = .int .i64 k ∧ Below w.heap.size w wr ∧ w.heap.size ≤ wr.heap.size
set_option maxRecDepth 100000 in
set_option maxHeartbeats 4000000 in
theorem same_any (v1 v2 : Value) (L : List StP) (w : World) (h1 : StM w v1 L) (h2 : StM w v2 L) (hl : L.length ≤ 1000000000) (hk : ∀ x ∈ L, x.keep.length ≤ 9223372036854775807) :
    Calls Tryd.prog 11 #[v1, v2] w fun e w' => e = .returned (.bool true) ∧ Below w.heap.size w w' := by
  obtain ⟨ad1, cap1, rfl, -, -, hc1⟩ := h1
  obtain ⟨ad2, cap2, rfl, -, -, hc2⟩ := h2
  have HC1 := Lib.hid hc1
  have HC2 := Lib.hid hc2
  have HK := Lib.hid hk
  clear hc1 hc2 hk
  go_enter Tryd.func11, Tryd.ntmps11
  go_wp2_with fail
  go_loopw [5] (fun i wr => SmRel L.length w i wr) (fun i _ => L.length - (intOf i).toNat)
  case atStart => exact ⟨0, Nat.zero_le _, rfl, Below.refl _ _, Nat.le_refl _⟩
  case round =>
    obtain ⟨k, hk, rfl, hB, hsz⟩ := hrel
    have HB := Lib.hid hB
    clear hB
    by_cases hlt : k < L.length
    · obtain ⟨x, hx⟩ : ∃ x, L[k]? = some x := ⟨_, List.getElem?_eq_getElem hlt⟩
      obtain ⟨pb1, po1, kv1, rfl, hcc1, hk1⟩ := HC1.out k x hx
      obtain ⟨pb2, po2, kv2, rfl, hcc2, hk2⟩ := HC2.out k x hx
      have hkl := HK.out x (List.mem_of_getElem? hx)
      have hk1r := hk1.below HB.out
      have hk2r := hk2.below HB.out
      obtain ⟨ka1, kc1, rfl, hi1⟩ := hk1r
      obtain ⟨ka2, kc2, rfl, hi2⟩ := hk2r
      have cc1 : ∀ j u, (stepL (x, .slice ka1 x.keep.length kc1))[j]? = some u → wr.cell? ⟨pb1, po1 + k * 6 + j, none⟩ = some u := fun j u hu => (HB.out.cell (cell_lt (hcc1 j u hu))).trans (hcc1 j u hu)
      have cc2 : ∀ j u, (stepL (x, .slice ka2 x.keep.length kc2))[j]? = some u → wr.cell? ⟨pb2, po2 + k * 6 + j, none⟩ = some u := fun j u hu => (HB.out.cell (cell_lt (hcc2 j u hu))).trans (hcc2 j u hu)
      have a0 : wr.cell? ⟨pb1, po1 + k * 6, none⟩ = some (.int .i64 x.kind) := cc1 0 _ rfl
      have a1 := cc1 1 _ rfl
      have a2 := cc1 2 _ rfl
      have a3 := cc1 3 _ rfl
      have a4 := cc1 4 _ rfl
      have a5 := cc1 5 _ rfl
      have b0' : wr.cell? ⟨pb2, po2 + k * 6, none⟩ = some (.int .i64 x.kind) := cc2 0 _ rfl
      have hlA : ∀ (o : Obj) j u, (stepL (x, .slice ka2 x.keep.length kc2))[j]? = some u → (wr.alloc o).cell? ⟨pb2, po2 + k * 6 + j, none⟩ = some u := fun o j u hu => cell_alloc (cc2 j u hu) o
      have b0 : ∀ o, (wr.alloc o).cell? ⟨pb2, po2 + k * 6, none⟩ = some (.int .i64 x.kind) := fun o => hlA o 0 _ rfl
      have b1 := fun o => hlA o 1 _ rfl
      have b2 := fun o => hlA o 2 _ rfl
      have b3 := fun o => hlA o 3 _ rfl
      have b4 := fun o => hlA o 4 _ rfl
      have b5 := fun o => hlA o 5 _ rfl
      have HI1 := Lib.hid hi1
      have HI2 := Lib.hid hi2
      have hk0 : (0 : Int) ≤ (k : Int) := Int.natCast_nonneg _
      have hk1 : (k : Int) < (L.length : Int) := by omega
      have hw2 : Below wr.heap.size wr ((wr.alloc (.cells #[.int .i64 x.kind, .int .i64 x.a, .int .i64 x.b, .int .i64 x.n, .string x.text, .slice ka1 x.keep.length kc1] TSt)).alloc (.cells #[.int .i64 x.kind, .int .i64 x.a, .int .i64 x.b, .int .i64 x.n, .string x.text, .slice ka2 x.keep.length kc2] TSt)) :=
        ((Below.refl _ _).alloc (Nat.le_refl _) _).alloc (by rw [size_alloc]; omega) _
      have HW2 := Lib.hid hw2
      have hx1 := blk_new1 wr (.cells #[.int .i64 x.kind, .int .i64 x.a, .int .i64 x.b, .int .i64 x.n, .string x.text, .slice ka1 x.keep.length kc1] TSt) (.cells #[.int .i64 x.kind, .int .i64 x.a, .int .i64 x.b, .int .i64 x.n, .string x.text, .slice ka2 x.keep.length kc2] TSt)
      have hx2 := blk_new2 wr (.cells #[.int .i64 x.kind, .int .i64 x.a, .int .i64 x.b, .int .i64 x.n, .string x.text, .slice ka1 x.keep.length kc1] TSt) (.cells #[.int .i64 x.kind, .int .i64 x.a, .int .i64 x.b, .int .i64 x.n, .string x.text, .slice ka2 x.keep.length kc2] TSt)
      have HX1 := Lib.hid hx1
      have HX2 := Lib.hid hx2
      clear hcc1 hcc2 hi1 hi2 cc1 cc2 hlA hw2 hx1 hx2 hk2 b0' hx
      go_wp2_with fail
      generalize ((wr.alloc (.cells #[.int .i64 x.kind, .int .i64 x.a, .int .i64 x.b, .int .i64 x.n, .string x.text, .slice ka1 x.keep.length kc1] TSt)).alloc (.cells #[.int .i64 x.kind, .int .i64 x.a, .int .i64 x.b, .int .i64 x.n, .string x.text, .slice ka2 x.keep.length kc2] TSt)) = w2 at HW2 HX1 HX2 ⊢
      obtain ⟨wk, hwk⟩ : ∃ wk : World, wk = wr := ⟨_, rfl⟩
      subst hwk
      clear a0 a1 a2 a3 a4 a5 b0 b1 b2 b3 b4 b5
      go_loopw [8] (fun i wx => SmRel x.keep.length w2 i wx) (fun i _ => x.keep.length - (intOf i).toNat)
      case atStart => exact ⟨0, Nat.zero_le _, rfl, Below.refl _ _, Nat.le_refl _⟩
      case round =>
        obtain ⟨j, hj, rfl, hB2, hsz2⟩ := hrel
        have e1 := blk_later HX1.out hB2
        have e2 := blk_later HX2.out hB2
        have f1 := cell_of_blk e1 5 (v := .slice ka1 x.keep.length kc1) rfl
        have f2 := cell_of_blk e2 5 (v := .slice ka2 x.keep.length kc2) rfl
        have HB2 := Lib.hid hB2
        clear e1 e2 hB2
        by_cases hjl : j < x.keep.length
        · obtain ⟨n, hn⟩ : ∃ n, x.keep[j]? = some n := ⟨_, List.getElem?_eq_getElem hjl⟩
          obtain ⟨qb1, qo1, rfl, g1⟩ := HI1.out j n hn
          obtain ⟨qb2, qo2, rfl, g2⟩ := HI2.out j n hn
          have hbk := HW2.out.trans (HB2.out.mono HW2.out.size)
          have g1r := (hbk.cell (cell_lt g1)).trans g1
          have g2r := (hbk.cell (cell_lt g2)).trans g2
          have hj0 : (0 : Int) ≤ (j : Int) := Int.natCast_nonneg _
          have hj1 : (j : Int) < (x.keep.length : Int) := by omega
          clear g1 g2 hbk hn
          go_wp2_with fail
          have f1r := cell_regrown f1
          have f2r := cell_regrown f2
          have g1q := cell_regrown g1r
          have g2q := cell_regrown g2r
          refine wp_region_quiet_below (by kernel_rfl) (by kernel_rfl) ?_
          repeat quiet_step (fail)
          refine wpQuiet_nil ?_
          intro w5 hw5
          obtain ⟨⟨dq, osq⟩, hw''⟩ := hw5
          have hb5 : Below wr.heap.size wr w5 := by rw [hw'']; exact below_regrown wr dq osq
          have HB5 := Lib.hid (HB2.out.trans (hb5.mono hsz2))
          have hsz5 := Nat.le_trans hsz2 hb5.size
          clear hw'' hb5 f1r f2r g1q g2q f1 f2 g1r g2r
          go_wp2_with fail
          go_roundw
          case rel => exact ⟨j + 1, hjl, by go_num, HB5.out, hsz5⟩
          case measure => simp [intOf]; omega
        · obtain rfl : j = x.keep.length := by omega
          have HBf := Lib.hid (HB.out.trans ((HW2.out.trans (HB2.out.mono HW2.out.size)).mono HB.out.size))
          have hszf := HBf.out.size
          go_wp2_with fail
          go_roundw
          case rel => exact ⟨k + 1, hlt, by go_num, HBf.out, hszf⟩
          case measure => simp [intOf]; omega
    · obtain rfl : k = L.length := by omega
      go_wp2_with fail
      go_ret
      exact ⟨rfl, HB.out⟩
end Go.Proofs.YtffolbdimkhmmaaDoor
