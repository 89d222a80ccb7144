import Derived.Test.YtobepddifflpdaaPkBF
import Derived.Test.YtobepddifflpdaaPkC
set_option linter.unusedVariables false
namespace Go.Proofs.Ytobepddifflpdaa
open Go Go.RowKit Go.Lib

/-! ### replies as bytes -/
def rep4 (id e z : Int) : WS := wNum (wNum (wNum (wNum (⟨#[]⟩, false) 2 1) id 2) e 1) z 4
def unfair (e z : Int) (d : ByteArray) : Prop := e ≠ 0 ∧ (z ≠ 0 ∨ d.size ≠ 0)
instance (e z : Int) (d : ByteArray) : Decidable (unfair e z d) := by unfold unfair; infer_instance
def repO (id e z : Int) (d : ByteArray) : ByteArray × Int := if unfair e z d then (⟨#[]⟩, 1) else wOut (rText (rep4 id e z) d)
theorem repO_prog (id e z : Int) (d : ByteArray) (h : ¬ unfair e z d) : repO id e z d = wOut (pText (rep4 id e z) d) := by
  unfold repO
  rw [if_neg h]
  exact ((WEq.refl _).text d).out.symm
theorem rep4_size (id e z : Int) : (rep4 id e z).1.size ≤ 8 := by
  unfold rep4
  have h1 := wNum_size (⟨#[]⟩, false) 2 1
  have h2 := wNum_size (wNum (⟨#[]⟩, false) 2 1) id 2
  have h3 := wNum_size (wNum (wNum (⟨#[]⟩, false) 2 1) id 2) e 1
  have h4 := wNum_size (wNum (wNum (wNum (⟨#[]⟩, false) 2 1) id 2) e 1) z 4
  have h0 : ((⟨#[]⟩ : ByteArray), false).1.size = 0 := rfl
  omega

/-- a block of a reply. -/
def RepAt (w : World) (b : Nat) (id e z : Int) (d : ByteArray) : Prop := w.heap[b]? = some (.cells #[.int .i64 id, .int .i64 e, .int .i64 z, .string d] 30 (0, 0))
theorem RepAt.cells {w : World} {b : Nat} {id e z : Int} {d : ByteArray} (h : RepAt w b id e z d) :
    (w.cell? ⟨b, 0, none⟩ = some (.int .i64 id) ∧ w.cell? ⟨b, 1, none⟩ = some (.int .i64 e) ∧ w.cell? ⟨b, 2, none⟩ = some (.int .i64 z) ∧ w.cell? ⟨b, 3, none⟩ = some (.string d)) ∧ ∀ j, w.frozen? ⟨b, j, none⟩ = false :=
  ⟨⟨cell_of_blk h 0 rfl, cell_of_blk h 1 rfl, cell_of_blk h 2 rfl, cell_of_blk h 3 rfl⟩, fun j => free_of_blk h j⟩

set_option maxRecDepth 100000 in
theorem fair_any (id e z : Int) (d : ByteArray) (w : World) :
    Calls Try.prog 39 #[.agg #[.int .i64 id, .int .i64 e, .int .i64 z, .string d]] w fun en w' => en = .returned (.bool (!decide (unfair e z d))) ∧ Below w.heap.size w w' := by
  by_cases g1 : e ≠ 0
  · have hb1 : (e == 0) = false := beq_eq_false_iff_ne.2 g1
    by_cases g2 : z ≠ 0
    · have hb2 : (z == 0) = false := beq_eq_false_iff_ne.2 g2
      rw [decide_eq_true (show unfair e z d from ⟨g1, .inl g2⟩)]
      go_enter Try.func39, Try.ntmps39
      go_wp2_with fail
      go_ret
      exact ⟨rfl, (Below.refl _ _).alloc (Nat.le_refl _) _⟩
    · have hz : z = 0 := by omega
      by_cases g3 : d.size ≠ 0
      · have hb3 : d.toList.isEmpty = false := by rw [toList_empty]; exact decide_eq_false g3
        rw [decide_eq_true (show unfair e z d from ⟨g1, .inr g3⟩)]
        subst hz
        clear g2
        go_enter Try.func39, Try.ntmps39
        go_wp2_with fail
        go_ret
        exact ⟨rfl, (Below.refl _ _).alloc (Nat.le_refl _) _⟩
      · have hb3 : d.toList.isEmpty = true := by rw [toList_empty]; exact decide_eq_true (by omega)
        rw [decide_eq_false (show ¬ unfair e z d from fun h => h.2.elim g2 g3)]
        subst hz
        clear g2
        go_enter Try.func39, Try.ntmps39
        go_wp2_with fail
        go_ret
        exact ⟨rfl, (Below.refl _ _).alloc (Nat.le_refl _) _⟩
  · rw [decide_eq_false (show ¬ unfair e z d from fun h => g1 h.1)]
    have he : e = 0 := by omega
    subst he
    clear g1
    go_enter Try.func39, Try.ntmps39
    go_wp2_with fail
    go_ret
    exact ⟨rfl, (Below.refl _ _).alloc (Nat.le_refl _) _⟩

set_option maxRecDepth 100000 in
set_option maxHeartbeats 1000000 in
theorem layreply_any (id e z : Int) (d : ByteArray) (w : World) (hid : -9223372036854775808 ≤ id ∧ id ≤ 9223372036854775807) (he : -9223372036854775808 ≤ e ∧ e ≤ 9223372036854775807) (hz : -9223372036854775808 ≤ z ∧ z ≤ 9223372036854775807) (hd : d.size ≤ 70368744000000) :
    Calls Try.prog 28 #[.agg #[.int .i64 id, .int .i64 e, .int .i64 z, .string d]] w fun en w' => en = .returned (.tuple #[.string (repO id e z d).1, .int .i64 (repO id e z d).2]) ∧ Below w.heap.size w w' := by
  have hsz := rep4_size id e z
  by_cases hu : unfair e z d
  · have hres : repO id e z d = (⟨#[]⟩, 1) := if_pos hu
    rw [hres]
    have HF : ∀ W, Calls Try.prog 39 #[.agg #[.int .i64 id, .int .i64 e, .int .i64 z, .string d]] W fun en w' => en = .returned (.bool false) ∧ Below W.heap.size W w' := fun W => by
      have := fair_any id e z d W
      rw [decide_eq_true hu] at this
      exact this
    have HF' := Lib.hid HF
    clear HF hres hu
    go_enter Try.func28, Try.ntmps28
    go_wp2_with fail
    refine (HF'.out _).mono ?_
    rintro e w1 ⟨rfl, hb⟩
    have HB := Lib.hid (((Below.refl w.heap.size w).alloc (Nat.le_refl _) _).trans (hb.mono (by rw [size_alloc]; omega)))
    clear hb
    go_wp2_with fail
    go_ret2
    exact ⟨rfl, HB.out⟩
  · have hres := repO_prog id e z d hu
    rw [hres]
    have HF : ∀ W, Calls Try.prog 39 #[.agg #[.int .i64 id, .int .i64 e, .int .i64 z, .string d]] W fun en w' => en = .returned (.bool true) ∧ Below W.heap.size W w' := fun W => by
      have := fair_any id e z d W
      rw [decide_eq_false hu] at this
      exact this
    have HF' := Lib.hid HF
    clear HF hres hu
    go_enter Try.func28, Try.ntmps28
    go_wp2_with fail
    refine (HF'.out _).mono ?_
    rintro e' w1 ⟨rfl, hb⟩
    have P1 : RepAt w1 w.heap.size id e z d := blk_later (blk_new _ _) hb
    have HB : Below w.heap.size w w1 := ((Below.refl w.heap.size w).alloc (Nat.le_refl _) _).trans (hb.mono (by rw [size_alloc]; omega))
    have g0 := wg_new 94 (L := [(w.heap.size, #[.int .i64 id, .int .i64 e, .int .i64 z, .string d], 30)]) HB HB.size (fun x hx => by obtain rfl := List.mem_singleton.1 hx; exact ⟨P1, show 30 ≠ 5 by decide⟩)
    have G1 := Lib.hid g0
    have hl1 : w.heap.size < w1.heap.size := (Array.getElem?_eq_some_iff.1 P1).1
    clear hb P1 HB g0 HF'
    go_wp2_with fail
    generalize w1.heap.size = wb at G1 hl1 ⊢
    obtain ⟨v1, hv⟩ := G1.out.ex
    have HV := Lib.hid hv
    clear hv
    refine (pw1_any w.heap.size wb v1 _ 2 _ (by decide) (by decide) HV.out).mono ?_
    rintro e' w2 ⟨rfl, hk⟩
    have G2 : Hid (WG 94 w.heap.size w w2 wb [(w.heap.size, #[.int .i64 id, .int .i64 e, .int .i64 z, .string d], 30)] (wNum (⟨#[]⟩, false) 2 1)) := Lib.hid (G1.out.step HV.out hk)
    have P2 : RepAt w2 w.heap.size id e z d := (G2.out.par _ (List.mem_singleton.2 rfl)).1
    have c0 := P2.cells.1.1
    clear hk HV G1 P2
    go_wp2_with fail
    clear c0
    obtain ⟨v2, hv⟩ := G2.out.ex
    have HV := Lib.hid hv
    clear hv
    refine (pw2_any w.heap.size wb v2 _ id _ hid (by have := wNum_size (⟨#[]⟩, false) 2 1; have h0 : ((⟨#[]⟩ : ByteArray), false).1.size = 0 := rfl; omega) HV.out).mono ?_
    rintro e' w3 ⟨rfl, hk⟩
    have G3 : Hid (WG 94 w.heap.size w w3 wb [(w.heap.size, #[.int .i64 id, .int .i64 e, .int .i64 z, .string d], 30)] (wNum (wNum (⟨#[]⟩, false) 2 1) id 2)) := Lib.hid (G2.out.step HV.out hk)
    have P3 : RepAt w3 w.heap.size id e z d := (G3.out.par _ (List.mem_singleton.2 rfl)).1
    have c0 := P3.cells.1.2.1
    clear hk HV G2 P3
    go_wp2_with fail
    clear c0
    obtain ⟨v3, hv⟩ := G3.out.ex
    have HV := Lib.hid hv
    clear hv
    refine (pw1_any w.heap.size wb v3 _ e _ he (by have := wNum_size (⟨#[]⟩, false) 2 1; have := wNum_size (wNum (⟨#[]⟩, false) 2 1) id 2; have h0 : ((⟨#[]⟩ : ByteArray), false).1.size = 0 := rfl; omega) HV.out).mono ?_
    rintro e' w4 ⟨rfl, hk⟩
    have G4 : Hid (WG 94 w.heap.size w w4 wb [(w.heap.size, #[.int .i64 id, .int .i64 e, .int .i64 z, .string d], 30)] (wNum (wNum (wNum (⟨#[]⟩, false) 2 1) id 2) e 1)) := Lib.hid (G3.out.step HV.out hk)
    have P4 : RepAt w4 w.heap.size id e z d := (G4.out.par _ (List.mem_singleton.2 rfl)).1
    have c0 := P4.cells.1.2.2.1
    clear hk HV G3 P4
    go_wp2_with fail
    clear c0
    obtain ⟨v4, hv⟩ := G4.out.ex
    have HV := Lib.hid hv
    clear hv
    refine (pw4_any w.heap.size wb v4 _ z _ hz (by have := wNum_size (⟨#[]⟩, false) 2 1; have := wNum_size (wNum (⟨#[]⟩, false) 2 1) id 2; have := wNum_size (wNum (wNum (⟨#[]⟩, false) 2 1) id 2) e 1; have h0 : ((⟨#[]⟩ : ByteArray), false).1.size = 0 := rfl; omega) HV.out).mono ?_
    rintro e' w5 ⟨rfl, hk⟩
    have G5 : Hid (WG 94 w.heap.size w w5 wb [(w.heap.size, #[.int .i64 id, .int .i64 e, .int .i64 z, .string d], 30)] (rep4 id e z)) := Lib.hid (G4.out.step HV.out hk)
    have P5 : RepAt w5 w.heap.size id e z d := (G5.out.par _ (List.mem_singleton.2 rfl)).1
    have c0 := P5.cells.1.2.2.2
    clear hk HV G4 P5
    go_wp2_with fail
    clear c0
    obtain ⟨v5, hv⟩ := G5.out.ex
    have HV := Lib.hid hv
    clear hv
    refine (ptext_any w.heap.size wb v5 _ d _ (by omega) HV.out).mono ?_
    rintro e' w6 ⟨rfl, hk⟩
    have G6 : Hid (WG 94 w.heap.size w w6 wb [(w.heap.size, #[.int .i64 id, .int .i64 e, .int .i64 z, .string d], 30)] (pText (rep4 id e z) d)) := Lib.hid (G5.out.step HV.out hk)
    have P6 : RepAt w6 w.heap.size id e z d := (G6.out.par _ (List.mem_singleton.2 rfl)).1
    clear hk HV G5 P6
    go_wp2_with fail
    obtain ⟨v6, hv⟩ := G6.out.ex
    refine (pbytes_any w.heap.size wb v6 _ _ hv).mono ?_
    rintro e' w7 ⟨rfl, rfl⟩
    clear hv
    go_wp2_with fail
    go_ret2
    exact ⟨rfl, G6.out.below⟩
end Go.Proofs.Ytobepddifflpdaa
