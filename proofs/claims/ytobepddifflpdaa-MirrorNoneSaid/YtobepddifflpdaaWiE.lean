import Derived.Test.YtobepddifflpdaaWiD
set_option linter.unusedVariables false
namespace Go.Proofs.Ytobepddifflpdaa
open Go Go.RowKit Go.Lib

/-! ### asks as bytes -/
def la2 (id : Int) : WS := wNum (wNum (⟨#[]⟩, false) 1 1) id 2
def la3 (id : Int) (p : ByteArray) : WS := rText (la2 id) p
def la4 (id : Int) (p : ByteArray) (fr : Int) : WS := wNum (la3 id p) fr 4
def la5 (id : Int) (p : ByteArray) (fr mo : Int) : WS := wNum (la4 id p fr) mo 2
def laO (id : Int) (p : ByteArray) (fr mo : Int) : ByteArray × Int := if p.size < 1 ∨ 64 < p.size then (⟨#[]⟩, 1) else wOut (la5 id p fr mo)
theorem la_sizes (id : Int) (p : ByteArray) (fr mo : Int) : (la2 id).1.size ≤ 3 ∧ (la3 id p).1.size ≤ 65540 ∧ (la4 id p fr).1.size ≤ 65544 ∧ (la5 id p fr mo).1.size ≤ 65546 := by
  have h1 := wNum_size (⟨#[]⟩, false) 1 1
  have h2 : (la2 id).1.size ≤ _ := wNum_size (wNum (⟨#[]⟩, false) 1 1) id 2
  have h0 : ((⟨#[]⟩ : ByteArray), false).1.size = 0 := rfl
  have h3 : (la3 id p).1.size ≤ 65540 := by
    unfold la3 rText
    split
    · show (la2 id).1.size ≤ _; omega
    · unfold pText
      show ((wNum (la2 id) p.size 2).1 ++ p).size ≤ _
      have := wNum_size (la2 id) p.size 2
      rw [ByteArray.size_append]
      omega
  have h4 : (la4 id p fr).1.size ≤ _ := wNum_size (la3 id p) fr 4
  have h5 : (la5 id p fr mo).1.size ≤ _ := wNum_size (la4 id p fr) mo 2
  omega

set_option maxRecDepth 100000 in
set_option maxHeartbeats 1000000 in
theorem reflayask_any (id : Int) (p : ByteArray) (fr mo : Int) (w : World) (hid : -9223372036854775808 ≤ id ∧ id ≤ 9223372036854775807) (hfr : -9223372036854775808 ≤ fr ∧ fr ≤ 9223372036854775807) (hmo : -9223372036854775808 ≤ mo ∧ mo ≤ 9223372036854775807) (hp : p.size ≤ 9223372036854775807) :
    Calls Try.prog 14 #[.agg #[.int .i64 id, .string p, .int .i64 fr, .int .i64 mo]] w fun en w' => en = .returned (.tuple #[.string (laO id p fr mo).1, .int .i64 (laO id p fr mo).2]) ∧ Below w.heap.size w w' := by
  obtain ⟨z2, z3, z4, z5⟩ := la_sizes id p fr mo
  have hfair : (p.size < 1 ∨ 64 < p.size → laO id p fr mo = (⟨#[]⟩, 1)) ∧ (¬ (p.size < 1 ∨ 64 < p.size) → laO id p fr mo = wOut (la5 id p fr mo)) := ⟨fun h => if_pos h, fun h => if_neg h⟩
  generalize laO id p fr mo = R at hfair ⊢
  have HF := Lib.hid hfair
  clear hfair
  go_enter Try.func14, Try.ntmps14
  have P0 : AskAt (w.alloc (.cells #[.int .i64 id, .string p, .int .i64 fr, .int .i64 mo] 33)) w.heap.size id p fr mo := blk_new _ _
  have g0 := wg_new 75 (w := w.alloc (.cells #[.int .i64 id, .string p, .int .i64 fr, .int .i64 mo] 33)) (L := [(w.heap.size, #[.int .i64 id, .string p, .int .i64 fr, .int .i64 mo], 33)]) ((Below.refl w.heap.size w).alloc (Nat.le_refl _) _) (by rw [size_alloc]; omega) (fun x hx => by obtain rfl := List.mem_singleton.1 hx; exact ⟨P0, show 33 ≠ 5 by decide⟩)
  rw [size_alloc] at g0
  have G1 := Lib.hid g0
  clear g0 P0
  go_wp2_with fail
  generalize (w.alloc (.cells #[.int .i64 id, .string p, .int .i64 fr, .int .i64 mo] 33)).alloc (.cells #[.slice none 0 0, .bool false] 75) = w1 at G1 ⊢
  obtain ⟨wb, hwb⟩ : ∃ wb, wb = w.heap.size + 1 := ⟨_, rfl⟩
  rw [← hwb] at G1 ⊢
  have HWB := Lib.hid hwb
  clear hwb
  obtain ⟨v1, hv⟩ := G1.out.ex
  have HV := Lib.hid hv
  clear hv
  refine (rnum_any w.heap.size wb v1 _ 1 1 _ (by decide) (by decide) (by decide) HV.out).mono ?_
  rintro e' w2 ⟨rfl, hk⟩
  have G2 : Hid (WG 75 w.heap.size w w2 wb [(w.heap.size, #[.int .i64 id, .string p, .int .i64 fr, .int .i64 mo], 33)] (wNum (⟨#[]⟩, false) 1 1)) := Lib.hid (G1.out.step HV.out hk)
  have P2 : AskAt w2 w.heap.size id p fr mo := (G2.out.par _ (List.mem_singleton.2 rfl)).1
  have c0 := P2.cells.1.1
  clear hk HV G1 P2
  go_wp2_with fail
  clear c0
  obtain ⟨v2, hv⟩ := G2.out.ex
  have HV := Lib.hid hv
  clear hv
  refine (rnum_any w.heap.size wb v2 _ id 2 _ (by decide) hid (by have := wNum_size (⟨#[]⟩, false) 1 1; have h0 : ((⟨#[]⟩ : ByteArray), false).1.size = 0 := rfl; omega) HV.out).mono ?_
  rintro e' w3 ⟨rfl, hk⟩
  have G3 : Hid (WG 75 w.heap.size w w3 wb [(w.heap.size, #[.int .i64 id, .string p, .int .i64 fr, .int .i64 mo], 33)] (la2 id)) := Lib.hid (G2.out.step HV.out hk)
  have P3 : AskAt w3 w.heap.size id p fr mo := (G3.out.par _ (List.mem_singleton.2 rfl)).1
  have c0 := P3.cells.1.2.1
  clear hk HV G2 P3
  go_wp2_with fail
  clear c0
  obtain ⟨v3, hv⟩ := G3.out.ex
  have HV := Lib.hid hv
  clear hv
  refine (rtext_any w.heap.size wb v3 _ p _ (by omega) hp HV.out).mono ?_
  rintro e' w4 ⟨rfl, hk⟩
  have G4 : Hid (WG 75 w.heap.size w w4 wb [(w.heap.size, #[.int .i64 id, .string p, .int .i64 fr, .int .i64 mo], 33)] (la3 id p)) := Lib.hid (G3.out.step HV.out hk)
  have P4 : AskAt w4 w.heap.size id p fr mo := (G4.out.par _ (List.mem_singleton.2 rfl)).1
  have c0 := P4.cells.1.2.2.1
  clear hk HV G3 P4
  go_wp2_with fail
  clear c0
  obtain ⟨v4, hv⟩ := G4.out.ex
  have HV := Lib.hid hv
  clear hv
  refine (rnum_any w.heap.size wb v4 _ fr 4 _ (by decide) hfr (by omega) HV.out).mono ?_
  rintro e' w5 ⟨rfl, hk⟩
  have G5 : Hid (WG 75 w.heap.size w w5 wb [(w.heap.size, #[.int .i64 id, .string p, .int .i64 fr, .int .i64 mo], 33)] (la4 id p fr)) := Lib.hid (G4.out.step HV.out hk)
  have P5 : AskAt w5 w.heap.size id p fr mo := (G5.out.par _ (List.mem_singleton.2 rfl)).1
  have c0 := P5.cells.1.2.2.2
  clear hk HV G4 P5
  go_wp2_with fail
  clear c0
  obtain ⟨v5, hv⟩ := G5.out.ex
  have HV := Lib.hid hv
  clear hv
  refine (rnum_any w.heap.size wb v5 _ mo 2 _ (by decide) hmo (by omega) HV.out).mono ?_
  rintro e' w6 ⟨rfl, hk⟩
  have G6 : Hid (WG 75 w.heap.size w w6 wb [(w.heap.size, #[.int .i64 id, .string p, .int .i64 fr, .int .i64 mo], 33)] (la5 id p fr mo)) := Lib.hid (G5.out.step HV.out hk)
  have P6 : AskAt w6 w.heap.size id p fr mo := (G6.out.par _ (List.mem_singleton.2 rfl)).1
  obtain ⟨⟨c0, c1, c2, c3⟩, -⟩ := P6.cells
  clear hk HV G5 P6 z2 z3 z4 z5
  by_cases g1 : p.size < 1
  case' pos =>
    have hR := HF.out.1 (.inl g1)
    have HR := Lib.hid hR
    have g1' : (p.size : Int) < 1 := by omega
    clear hR g1
  case' neg =>
    have g1' : (1 : Int) ≤ (p.size : Int) := by omega
    by_cases g2 : 64 < p.size
    case' pos =>
      have hR := HF.out.1 (.inr g2)
      have HR := Lib.hid hR
      have g2' : (64 : Int) < (p.size : Int) := by omega
      clear hR g2
    case' neg =>
      have hR := HF.out.2 (fun h => h.elim g1 g2)
      have HR := Lib.hid hR
      have g2' : (p.size : Int) ≤ 64 := by omega
      clear hR g2
  all_goals
    go_wp2_with fail
    first
    | (go_ret2
       rw [HR.out]
       exact ⟨rfl, G6.out.below⟩)
    | (obtain ⟨v6, hv⟩ := G6.out.ex
       refine (rbytes_any w.heap.size wb v6 _ _ hv).mono ?_
       rintro e' w7 ⟨rfl, rfl⟩
       clear hv
       go_wp2_with fail
       go_ret2
       rw [HR.out]
       exact ⟨rfl, G6.out.below⟩)
end Go.Proofs.Ytobepddifflpdaa
