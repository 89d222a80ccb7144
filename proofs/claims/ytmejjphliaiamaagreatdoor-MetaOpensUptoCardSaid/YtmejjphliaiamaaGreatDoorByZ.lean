import Derived.Test.YtmejjphliaiamaaGreatDoorBy
set_option linter.unusedVariables false
set_option linter.unusedSimpArgs false
namespace Go.Proofs.YtmejjphliaiamaaGreatDoor
open Go Go.RowKit Go.Lib

def zerosB (n : Nat) : ByteArray := ⟨(List.replicate n 0).toArray⟩
theorem zerosB_size (n : Nat) : (zerosB n).size = n := by simp [zerosB, ByteArray.size]
theorem strCells_zeros (n : Nat) : strCells (zerosB n) = List.replicate n (.int .u8 0) := by simp [strCells, zerosB]

theorem zeroCells_u8 (n : Nat) : Builtin.zeroCells #[Value.int .u8 0] n = (List.replicate n (Value.int .u8 0)).toArray := by
  unfold Builtin.zeroCells
  apply Array.ext
  · simp
  · intro i h1 h2
    simp [Nat.mod_one]

theorem run_zeros_eq (w : World) (ty : TypeId) (ad : Option Addr) (l c n : Nat) (hn : n ≤ 1024) (hl : l + n ≤ 70368744177664) :
    (Builtin.append_ #[47, 3] ty #[.slice ad l c, .int .i64 n]).run Tryz.prog w = (Builtin.append_ #[47, 9] ty #[.slice ad l c, .string (zerosB n)]).run Tryz.prog w := by
  obtain ⟨i0, hi, hz0, hz1, hz2⟩ := info_parts infoU8
  have hw : IntKind.i64.wrap (n : Int) = n := IntWalk.i64_in _ (by omega)
  have h1 : ¬ ((n : Int) < 0) := by omega
  have h2 : ¬ ((n : Int) * 1 > 2 ^ 48) := by omega
  have h3 : ¬ ((n : Int) > 2 ^ 48) := by omega
  have h5 : ¬ ((9223372036854775807 : Int) < (l : Int) + (n : Int)) := by omega
  have hw0 : IntKind.i64.wrap 0 = 0 := by decide
  have zd : (zerosB n).data = Array.replicate n 0 := by simp [zerosB]
  by_cases hr : l + n ≤ c
  · by_cases hn0 : n = 0
    · subst hn0
      have hr' : l ≤ c := by omega
      simp [Builtin.append_, run_underlying Tryz.underlying47, run_underlying Tryz.underlying3, run_underlying Tryz.underlying9, sizeOf, typeInfo, hi, hz1, hz2, asInt, hw, hw0, h1, Builtin.lenOf, Builtin.firstCells, zerosB_size, Value.cells, zeroCells_u8, go_sem, zd, hr']
    · simp [Builtin.append_, run_underlying Tryz.underlying47, run_underlying Tryz.underlying3, run_underlying Tryz.underlying9, sizeOf, typeInfo, hi, hz1, hz2, asInt, hw, hw0, h1, h2, h3, Builtin.lenOf, Builtin.firstCells, zerosB_size, zeroU8, Value.cells, zeroCells_u8, go_sem, zd, hr, hn0]
      exact fun hc => absurd hc (by omega)
  · have h4 : ¬ (281474976710656 < Builtin.nextslicecap (l + n) c) := by
      have := growslice_fits (need := l + n) (old := c) (bytes := 1) (by omega) (by omega)
      omega
    by_cases hn0 : n = 0
    · subst hn0
      have hr' : ¬ l ≤ c := by omega
      have h4' : ¬ (281474976710656 < Builtin.nextslicecap l c) := by rw [Nat.add_zero] at h4; exact h4
      have h5' : ¬ ((9223372036854775807 : Int) < (l : Int)) := by omega
      simp [Builtin.append_, run_underlying Tryz.underlying47, run_underlying Tryz.underlying3, run_underlying Tryz.underlying9, sizeOf, typeInfo, hi, hz1, hz2, asInt, hw, hw0, h1, h2, h3, h5, Builtin.lenOf, Builtin.firstCells, zerosB_size, zeroU8, Value.cells, zeroCells_u8, go_sem, zd, hr', h4', h5']
    · simp [Builtin.append_, run_underlying Tryz.underlying47, run_underlying Tryz.underlying3, run_underlying Tryz.underlying9, sizeOf, typeInfo, hi, hz1, hz2, asInt, hw, hw0, h1, h2, h3, h5, Builtin.lenOf, Builtin.firstCells, zerosB_size, zeroU8, Value.cells, zeroCells_u8, go_sem, zd, hr, hn0, h4]
      exact fun hc => absurd hc (by omega)

theorem run_appZ {w : World} {base : Nat} {v : Value} {s : ByteArray} (ty : TypeId) (h : OwnB w base v s) (n : Nat) (hn : n ≤ 1024) (hz : s.size + n ≤ 70368744177664) (hb : base ≤ w.heap.size) :
    ∃ v' w', (Builtin.append_ #[47, 3] ty #[v, .int .i64 n]).run Tryz.prog w = .ok v' w' ∧ OwnB w' base v' (s ++ zerosB n) ∧ w.grownBy w' v.ownBlock := by
  obtain ⟨ad, c, hv⟩ : ∃ ad c, v = .slice ad s.size c := by
    rcases h.2 with ⟨h1, h2⟩ | ⟨g, cap, cur, h1, _⟩
    · exact ⟨none, 0, by rw [h1, h2]⟩
    · exact ⟨_, _, h1⟩
  have h0 := h
  subst hv
  rw [run_zeros_eq w ty ad s.size c n hn hz]
  exact run_appS ty h0 (zerosB n) (by rw [zerosB_size]; exact hz) hb

theorem wpList_appZ {P : Program} (w : World) {ops : Array Oper} {rest : List Oper} {o : Oper} {a : Act} {Q : Exit → Act → World → Prop} (hP : P = Tryz.prog) (hgd : o.guard = none) (sl x : Operand)
    (ho : o.op = .call { callee := .builtin .append, args := #[sl, x], argTypes := #[47, 3] })
    (base : Nat) (v : Value) (s : ByteArray) (hs : a.eval sl = v) (hown : OwnB w base v s) (n : Nat) (hx : a.eval x = .int .i64 n) (hn : n ≤ 1024) (hz : s.size + n ≤ 70368744177664) (hbase : base ≤ w.heap.size)
    (h : ∀ v' w', OwnB w' base v' (s ++ zerosB n) → w.grownBy w' v.ownBlock → wpList P ops Q rest (a.put o.dst v') w') : wpList P ops Q (o :: rest) a w := by
  subst hP
  refine wpList_plain hgd fun K hK => ?_
  obtain ⟨v', w', hr, h2, h3⟩ := run_appZ (w := w) o.type hown n hn hz hbase
  unfold Oper.wp execOp
  simp only [ho, resolve, invoke, builtin, Sem.run_bind, Sem.run_pure, Result.andThen_ok, List.map_toArray, List.map_cons, List.map_nil, hs, hx, hr]
  exact hK _ _ (h v' w' h2 h3)

end Go.Proofs.YtmejjphliaiamaaGreatDoor
