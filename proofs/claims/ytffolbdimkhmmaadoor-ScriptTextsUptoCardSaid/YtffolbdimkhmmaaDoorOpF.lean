/-
  A slice of steps as an argument.
-/
import Derived.Test.YtffolbdimkhmmaaDoorOpC
import Derived.Test.YtffolbdimkhmmaaDoorSeC
set_option linter.unusedVariables false
namespace Go.Proofs.YtffolbdimkhmmaaDoor
open Go Go.ChangeShapes Go.WideShapes Go.ChangeAt Go.RowKit Go.Joins Go.Deep

variable {H : Type} {enc : TypeId × Value → H} {W : World}
set_option maxRecDepth 100000 in
theorem open_ints {held : Bool} {fuel : Nat} {c : Value} {x : DataW H × List MemPlace} (h : DataW.trod enc Tryd.prog W 0 (fun _ => true) held fuel 27 [c] = some x) :
    ∃ l : List Int, IntsM W c l ∧ (∀ n ∈ l, -9223372036854775808 ≤ n ∧ n ≤ 9223372036854775807) ∧ l.length + 1 ≤ Rows.uptoBulk x.1 := by
  rcases open_slice1 Tryd.underlying27 (by kernel_rfl) h with ⟨h1, h2⟩ | ⟨a, len, cap, m, n, V, D, Pl, hcs, -, hl, -, hm, hx, hi⟩
  · simp at h1
    subst h1
    exact ⟨[], ⟨none, 0, rfl, fun i n hn => by simp at hn⟩, fun n hn => by simp at hn, bulk_pos _⟩
  · simp at hcs
    subst hcs
    simp at hm
    obtain ⟨L, hL, hp⟩ := gather (α := Int) (Q := fun i f => W.cell? (a.add i) = some (.int .i64 f) ∧ (-9223372036854775808 ≤ f ∧ f ≤ 9223372036854775807)) len fun i hlt => by
      obtain ⟨k0, t0⟩ := hi i (by omega)
      obtain ⟨z, e0, -, w0⟩ := DataW.trod_int Tryd.underlying3 t0
      simp at e0
      rw [e0] at k0
      exact ⟨z, k0, bounds_i64 w0⟩
    refine ⟨L, ⟨some a, cap, by rw [hL], fun i f hf => ?_⟩, fun n hn => ?_, ?_⟩
    · obtain ⟨k0, -⟩ := hp i f hf
      have h0 : 0 < L.length := by have := (List.getElem?_eq_some_iff.1 hf).1; omega
      obtain ⟨q0, -⟩ := hp 0 L[0] (List.getElem?_eq_getElem h0)
      have ha0 : a.add 0 = a := by unfold Addr.add; split <;> simp_all
      rw [ha0] at q0
      have hsp := spot_none q0
      refine ⟨a.block, a.off, congrArg some hsp, ?_⟩
      rw [hsp, add_lit] at k0
      exact k0
    · obtain ⟨i, hi9, rfl⟩ := List.getElem_of_mem hn
      exact (hp i _ (List.getElem?_eq_getElem hi9)).2
    · rw [hx]
      have := bulkAll_ge D bulk_pos (List.range len)
      rw [List.length_range] at this
      rw [Rows.uptoBulk, hL]
      omega
theorem stsW_bulk : ∀ (L : List StP) (D : Nat → DataW H), (∀ i x, L[i]? = some x → stW x ≤ 25 * Rows.uptoBulk (D i)) → stsW L ≤ 25 * Rows.uptoBulkAll ((List.range L.length).map D)
  | [], D, h => Nat.zero_le _
  | x :: r, D, h => by
    have h1 := stsW_bulk r (fun i => D (i + 1)) (fun i y hy => h (i + 1) y (by simpa using hy))
    have h0 := h 0 x rfl
    rw [List.length_cons, List.range_succ_eq_map, List.map_cons, List.map_map, Rows.uptoBulkAll, stsW]
    have e2 : (List.map (D ∘ Nat.succ) (List.range r.length)) = List.map (fun i => D (i + 1)) (List.range r.length) := rfl
    rw [e2]
    omega
set_option maxRecDepth 100000 in
set_option maxHeartbeats 1000000 in
theorem open_steps {held : Bool} {fuel : Nat} {c : Value} {x : DataW H × List MemPlace} (h : DataW.trod enc Tryd.prog W 0 (fun _ => true) held fuel 23 [c] = some x) :
    ∃ L : List StP, StM W c L ∧ (∀ y ∈ L, okS y) ∧ stsW L ≤ 25 * Rows.uptoBulk x.1 := by
  rcases open_slice_fields Tryd.underlying23 Tryd.underlying35 (by kernel_rfl) (by kernel_rfl) h with ⟨h1, h2⟩ | ⟨a, len, cap, m, D, Pl, hcs, -, hl, hcm, hm, hx, hi⟩
  · simp at h1
    subst h1
    exact ⟨[], ⟨none, 0, rfl, Nat.le_refl _, by decide, fun i f hf => by simp at hf⟩, fun i hf => (by cases hf), Nat.zero_le _⟩
  · simp at hcs
    subst hcs
    simp at hm
    obtain ⟨L, hL, hp⟩ := gather (α := StP) (Q := fun i s => ∃ kv, (∀ j u, (stepL (s, kv))[j]? = some u → W.cell? (a.add (i * 6 + j)) = some u) ∧ IntsM W kv s.keep ∧ okS s ∧ stW s ≤ 25 * Rows.uptoBulk (D i)) len fun i hlt => by
      obtain ⟨ys, n, hD, -, hyl, hf⟩ := hi i (by omega)
      obtain ⟨y0, y1, y2, y3, y4, y5, rfl⟩ : ∃ y0 y1 y2 y3 y4 y5, ys = [y0, y1, y2, y3, y4, y5] := by
        match ys, hyl with
        | [y0, y1, y2, y3, y4, y5], _ => exact ⟨y0, y1, y2, y3, y4, y5, rfl⟩
      obtain ⟨v0, z0, k0, q0, t0⟩ := hf 0 _ rfl
      obtain ⟨v1, z1, k1, q1, t1⟩ := hf 1 _ rfl
      obtain ⟨v2, z2, k2, q2, t2⟩ := hf 2 _ rfl
      obtain ⟨v3, z3, k3, q3, t3⟩ := hf 3 _ rfl
      obtain ⟨v4, z4, k4, q4, t4⟩ := hf 4 _ rfl
      obtain ⟨v5, z5, k5, q5, t5⟩ := hf 5 _ rfl
      obtain rfl : y0 = z0 := by simpa using q0
      obtain rfl : y1 = z1 := by simpa using q1
      obtain rfl : y2 = z2 := by simpa using q2
      obtain rfl : y3 = z3 := by simpa using q3
      obtain rfl : y4 = z4 := by simpa using q4
      obtain rfl : y5 = z5 := by simpa using q5
      obtain ⟨kind, e0, -, w0⟩ := DataW.trod_int Tryd.underlying3 t0
      obtain ⟨aa, e1, -, w1⟩ := DataW.trod_int Tryd.underlying3 t1
      obtain ⟨bb, e2, -, w2⟩ := DataW.trod_int Tryd.underlying3 t2
      obtain ⟨nn, e3, -, w3⟩ := DataW.trod_int Tryd.underlying3 t3
      obtain ⟨tx, e4, hd4, -⟩ := DataW.trod_string Tryd.underlying9 t4
      obtain ⟨zk, nk, e5, -, hk⟩ := trod_struct1 Tryd.underlying33 t5
      simp only [List.cons.injEq, and_true] at e0 e1 e2 e3 e4
      subst e0
      subst e1
      subst e2
      subst e3
      subst e4
      obtain ⟨kl, hki, hkr, hkb⟩ := open_ints hk
      refine ⟨⟨kind, aa, bb, nn, tx, kl⟩, v5, fun j u hu => ?_, hki, ⟨⟨bounds_i64 w1, bounds_i64 w2, bounds_i64 w3, hkr⟩, bounds_i64 w0⟩, ?_⟩
      · match j, hu with
        | 0, hu => cases hu; exact k0
        | 1, hu => cases hu; exact k1
        | 2, hu => cases hu; exact k2
        | 3, hu => cases hu; exact k3
        | 4, hu => cases hu; exact k4
        | 5, hu => cases hu; exact k5
        | _ + 6, hu => cases hu
      · have e9 : tx.data.toList.length = tx.size := Array.length_toList
        have hd5 : y4.1 = .lit (.string tx.data.toList) := congrArg Prod.fst hd4
        have hd6 : y5.1 = .agg [zk.1] := congrArg Prod.fst e5
        rw [hD]
        simp only [List.map_cons, List.map_nil, Rows.uptoBulk, Rows.uptoBulkAll, hd5, hd6]
        have b0 := bulk_pos y0.1
        have b1 := bulk_pos y1.1
        have b2 := bulk_pos y2.1
        have b3 := bulk_pos y3.1
        unfold stW
        dsimp only
        omega
    subst hL
    refine ⟨L, ⟨some a, cap, rfl, hl, by unfold maxLen at hcm; omega, fun i s hs => ?_⟩, fun y hy => ?_, ?_⟩
    · obtain ⟨kv, k0, ki, -⟩ := hp i s hs
      have h0 : 0 < L.length := by have := (List.getElem?_eq_some_iff.1 hs).1; omega
      obtain ⟨kv0, q0, -⟩ := hp 0 L[0] (List.getElem?_eq_getElem h0)
      have q1 := q0 0 _ rfl
      have ha0 : a.add (0 * 6 + 0) = a := by unfold Addr.add; split <;> simp_all
      rw [ha0] at q1
      have hsp := spot_none q1
      refine ⟨a.block, a.off, kv, congrArg some hsp, fun j u hu => ?_, ki⟩
      have := k0 j u hu
      rw [hsp, add_lit] at this
      rw [Nat.add_assoc]
      exact this
    · obtain ⟨i, hi9, rfl⟩ := List.getElem_of_mem hy
      obtain ⟨kv, -, -, ho, -⟩ := hp i _ (List.getElem?_eq_getElem hi9)
      exact ho
    · have h1 := stsW_bulk L D (fun i s hs => by obtain ⟨kv, -, -, -, hb⟩ := hp i s hs; exact hb)
      rw [hx, Rows.uptoBulk]
      omega
theorem open_steps_form {held : Bool} {fuel : Nat} {c : Value} {x : DataW H × List MemPlace} (h : DataW.trod enc Tryd.prog W 0 (fun _ => true) held fuel 23 [c] = some x) : c = .slice none 0 0 ∨ ∃ a n k, c = .slice (some a) n k := by
  rcases open_slice Tryd.underlying23 h with ⟨h1, h2⟩ | ⟨a, len, cap, m, n, D, Pl, hcs, hb, hl, hm, hmm, hx, hi⟩
  · simp at h1
    exact .inl h1
  · simp at hcs
    exact .inr ⟨a, len, cap, hcs⟩
end Go.Proofs.YtffolbdimkhmmaaDoor
