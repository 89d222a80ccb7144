import Derived.Test.YtmejjphliaiamaaGreatDoorMeA
import Derived.Test.YtmejjphliaiamaaGreatDoorQt
set_option linter.unusedVariables false
set_option linter.unusedSimpArgs false
namespace Go.Proofs.YtmejjphliaiamaaGreatDoor
open Go Go.RowKit Go.Lib Go.Sort

/-! ### a root's five sets; a document that has nothing but its head -/
def setPs (b : Nat) : Array Value := #[.pointer (some ⟨b, 3, none⟩), .pointer (some ⟨b, 5, none⟩), .pointer (some ⟨b, 7, none⟩), .pointer (some ⟨b, 9, none⟩), .pointer (some ⟨b, 11, none⟩)]
set_option maxRecDepth 100000 in
set_option maxHeartbeats 1000000 in
theorem sets_any (b : Nat) (w : World) (h : b < w.heap.size) : Calls Tryz.prog 108 #[.pointer (some ⟨b, 0, none⟩)] w fun e w' => ∃ q, e = .returned (.slice (some ⟨q, 0, none⟩) 5 5) ∧ w.heap.size ≤ q ∧ w'.heap[q]? = some (.cells (setPs b) 134 (0, 0)) ∧ Below w.heap.size w w' := by
  go_enter Tryz.func108, Tryz.ntmps108
  go_wp2_with fail
  refine wp_region_quiet_tail_below 19 (by kernel_rfl) (by kernel_rfl) ?_
  simp only [List.take_succ_cons, List.take_zero, List.drop_succ_cons, List.drop_zero]
  repeat quiet_step (fail)
  refine wpQuiet_nil ?_
  intro w5 hw5
  obtain ⟨⟨dq, osq⟩, hw''⟩ := hw5
  have hb5 : Below w.heap.size w w5 := by rw [hw'']; exact below_regrown w dq osq
  have HB := Lib.hid hb5
  clear hw'' hb5
  go_wp2_with fail
  go_ret
  exact ⟨_, rfl, HB.out.size, blk_new _ _, HB.out.alloc HB.out.size _⟩
def zeroS (s : SV) : Bool := decide (s.n = 0) && decide (s.need = 0)
def setL (d : DV) : List SV := [d.s0, d.s1, d.s2, d.s3, d.s4]
def pointZ (d : DV) : Bool := decide (d.pO = ⟨#[]⟩ ∧ d.pS = 0 ∧ d.pR = ⟨#[]⟩)
def restZ (d : DV) : Bool := decide (d.log = ⟨#[]⟩) && (decide (d.org = ⟨#[]⟩) && (decide (d.ln = 0) && (decide (d.of = 0) && (decide (d.hash = ⟨#[]⟩) && pointZ d))))
def emptyB (d : DV) : Bool := (setL d).all zeroS && restZ d
theorem emp_nil : ByteArray.toList ⟨#[]⟩ = [] := by rw [ByteArray.toList_eq]
theorem ne_emp {x : ByteArray} (h : ¬ x = ⟨#[]⟩) : (x.toList == ByteArray.toList ⟨#[]⟩) = false ∧ x.toList.isEmpty = false := by
  have h1 : (x.toList == ByteArray.toList ⟨#[]⟩) = false := by rw [toList_eqbV]; exact decide_eq_false h
  refine ⟨h1, ?_⟩
  cases hl : x.toList with
  | nil => rw [hl, emp_nil] at h1; exact absurd h1 (by decide)
  | cons a b => rfl
theorem eq_emp : (ByteArray.toList ⟨#[]⟩ == ByteArray.toList ⟨#[]⟩) = true ∧ (ByteArray.toList ⟨#[]⟩).isEmpty = true := by rw [emp_nil]; exact ⟨rfl, rfl⟩
theorem eql_pt (w : World) (d : DV) : (binOp .eql 28 (.agg #[.string d.pO, .int .i64 d.pS, .string d.pR]) (.agg #[.string ⟨#[]⟩, .int .i64 0, .string ⟨#[]⟩])).run Tryz.prog w = .ok (.bool (pointZ d)) w := by
  have u5 := Tryz.underlying9
  have hS : Tryz.prog.underlying 28 = some (.struct (Tryz.prog.fieldsOf 28)) := by kernel_rfl
  have hp : Tryz.prog.stoodInHeld 28 = false := by kernel_rfl
  unfold pointZ
  generalize d.pO = a
  generalize d.pS = n
  generalize d.pR = c
  rw [run_eql_struct, show (10000 : Nat) = 9999 + 1 from rfl, run_equalIn_agg w 9999 28 _ _ hS hp]
  simp only [Program.fieldsOf, Tryz.underlying28]
  by_cases h1 : a = ⟨#[]⟩
  · subst h1
    by_cases h2 : n = 0
    · subst h2
      by_cases h3 : c = ⟨#[]⟩
      · subst h3
        rw [decide_eq_true ⟨rfl, rfl, rfl⟩]
        go_simp
      · obtain ⟨e1, e2⟩ := ne_emp h3
        rw [decide_eq_false (fun h => h3 h.2.2)]
        go_simp
    · have e1 : (n == 0) = false := beq_eq_false_iff_ne.2 h2
      rw [decide_eq_false (fun h => h2 h.2.1)]
      go_simp
  · obtain ⟨e1, e2⟩ := ne_emp h1
    rw [decide_eq_false (fun h => h1 h.1)]
    go_simp
end Go.Proofs.YtmejjphliaiamaaGreatDoor
