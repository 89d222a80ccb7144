import Derived.Test.YtffolbdimkhmmaaDoorProg
import Derived.Test.YtffolbdimkhmmaaDoorWd
import Derived.Maps.AppendAt
set_option linter.unusedVariables false
namespace Go.Proofs.YtffolbdimkhmmaaDoor
open Go Go.RowKit Go.Lib

/-! A slice of elements that a call owns, as a list: 'mk' lays an element's cells. -/
def OwnL {α : Type} (e : TypeId) (size : Nat) (mk : α → List Value) (w : World) (base : Nat) (v : Value) (l : List α) : Prop := w.ownsRow base e size v l.length (l.flatMap mk)

section
variable {α : Type} {e : TypeId} {size : Nat} {mk : α → List Value}
theorem ownL_nil (w : World) (base : Nat) : OwnL e size mk w base (.slice none 0 0) [] := ⟨by simp, .inl ⟨rfl, rfl⟩⟩
theorem OwnL.alloc {w : World} {base : Nat} {v : Value} {l : List α} (h : OwnL e size mk w base v l) (o : Obj) : OwnL e size mk (w.alloc o) base v l := World.ownsRow.alloc h o
theorem OwnL.of_block {w w' : World} {base : Nat} {v : Value} {l : List α} (h : OwnL e size mk w base v l) (hb : ∀ g, v.ownBlock = some g → w'.heap[g]? = w.heap[g]?) : OwnL e size mk w' base v l := by
  refine ⟨h.1, ?_⟩
  rcases h.2 with h2 | ⟨g, cap, cur, hv, hg, hh, r⟩
  · exact .inl h2
  · exact .inr ⟨g, cap, cur, hv, hg, (hb g (by rw [hv]; rfl)).trans hh, r⟩
theorem OwnL.lt {w : World} {base : Nat} {v : Value} {l : List α} (h : OwnL e size mk w base v l) : ∀ g, v.ownBlock = some g → base ≤ g ∧ g < w.heap.size := by
  intro g hg
  rcases h.2 with ⟨h2, _⟩ | ⟨g', cap, cur, hv, hb, hh, r⟩
  · rw [h2] at hg; cases hg
  · rw [hv] at hg
    obtain rfl : g' = g := Option.some.inj hg
    exact ⟨hb, (Array.getElem?_eq_some_iff.1 hh).1⟩
theorem OwnL.kp {S : Nat → Prop} {w w' : World} {base : Nat} {v : Value} {l : List α} (h : OwnL e size mk w base v l) (k : Kp S w w') (hS : ∀ g, v.ownBlock = some g → ¬ S g) : OwnL e size mk w' base v l :=
  h.of_block fun g hg => k.block g (h.lt g hg).2 (hS g hg)
theorem OwnL.below {w w' : World} {base : Nat} {v : Value} {l : List α} (h : OwnL e size mk w base v l) (k : Below w.heap.size w w') : OwnL e size mk w' base v l :=
  h.of_block fun g hg => k.block g (h.lt g hg).2
theorem OwnL.base {w : World} {base base' : Nat} {v : Value} {l : List α} (h : OwnL e size mk w base v l) (hb : ∀ g, v.ownBlock = some g → base' ≤ g) : OwnL e size mk w base' v l := by
  refine ⟨h.1, ?_⟩
  rcases h.2 with h2 | ⟨g, cap, cur, hv, hg, r⟩
  · exact .inl h2
  · exact .inr ⟨g, cap, cur, hv, hb g (by rw [hv]; rfl), r⟩
/-- its value's form. -/
theorem OwnL.form {w : World} {base : Nat} {v : Value} {l : List α} (h : OwnL e size mk w base v l) : ∃ ao cap, v = .slice ao l.length cap ∧ l.length ≤ cap ∧ cap ≤ 9223372036854775807 ∧ (0 < l.length → ∃ g, ao = some ⟨g, 0, none⟩ ∧ v.ownBlock = some g ∧
    (∃ cur fz, w.heap[g]? = some (.cells cur e fz)) ∧ ∀ j, j < l.length * size → w.cell? ⟨g, j, none⟩ = (l.flatMap mk)[j]?) := by
  rcases h.2 with ⟨h2, h0⟩ | ⟨g, cap, cur, hv, hb, hh, hc, hm, hz, ht⟩
  · exact ⟨none, 0, by rw [h2, h0], by omega, by omega, fun h => by omega⟩
  · refine ⟨_, cap, hv, hc, by unfold maxLen at hm; omega, fun _ => ⟨g, rfl, by rw [hv]; rfl, ⟨cur, _, hh⟩, fun j hj => ?_⟩⟩
    have h1 : cur.toList[j]? = (l.flatMap mk)[j]? := by rw [← ht, List.getElem?_take, if_pos hj]
    rw [← h1, Array.getElem?_toList]
    simp [World.cell?, hh]

theorem wpList_appL {P : Program} (w : World) {ops : Array Oper} {rest : List Oper} {o : Oper} {a : Act} {Q : Exit → Act → World → Prop} (hgd : o.guard = none) (sl x : Operand) (st : TypeId)
    (ho : o.op = .call { callee := .builtin .append, args := #[sl, x], argTypes := #[st, st] }) (i : TypeInfo) (z : Value) (bytes : Nat) (ht : P.underlying st = some (.slice e)) (hi : P.info? e = some i) (hz : i.zero = some z)
    (hsize : i.size = size) (hby : i.bytes = bytes) (hzs : z.cells.size = size) (hsz : 0 < size)
    (base : Nat) (v : Value) (l : List α) (hs : a.eval sl = v) (hown : OwnL e size mk w base v l) (y : α) (hmk : (mk y).length = size) (ad : Addr) (c : Nat) (hx : a.eval x = .slice (some ad) 1 c)
    (hc : ∀ j u, (mk y)[j]? = some u → w.cell? (ad.add j) = some u) (h1 : ∀ u ∈ mk y, u.oneCell' = true) (hlen : l.length + 1 ≤ 1000000000) (hb2 : bytes ≤ 100) (hbase : base ≤ w.heap.size)
    (h : ∀ v' w', OwnL e size mk w' base v' (l ++ [y]) → w.grownBy w' v.ownBlock → (v'.ownBlock = v.ownBlock ∨ v'.ownBlock = some w.heap.size) → wpList P ops Q rest (a.put o.dst v') w') : wpList P ops Q (o :: rest) a w := by
  refine wpList_plain hgd fun K hK => ?_
  obtain ⟨v', w', hr, h2, h3, _, h4⟩ := run_append_own_at (P := P) w base st o.type e i z size bytes ht hi hz hsize hby hzs hsz v l.length (l.flatMap mk) hown ad 1 c (mk y) (by rw [hmk, Nat.one_mul]) hc h1 (by unfold maxLen; omega)
    (by have := Nat.mul_le_mul (show l.length + 1 ≤ 1000000000 from hlen) hb2; omega) hbase
  unfold Oper.wp execOp
  simp only [ho, resolve, invoke, builtin, Sem.run_bind, Sem.run_pure, Result.andThen_ok, List.map_toArray, List.map_cons, List.map_nil, hs, hx, hr]
  refine hK _ _ (h v' w' ?_ h3 h4)
  unfold OwnL
  rw [List.length_append, List.flatMap_append]
  simpa using h2
end

/-- texts. -/
def OwnS (w : World) (base : Nat) (v : Value) (l : List ByteArray) : Prop := OwnL 9 1 (fun s => [Value.string s]) w base v l
theorem infoStr : (Tryd.prog.info? 9).map (fun i => (i.zero, i.size, i.bytes)) = some (some (.string ⟨#[]⟩), 1, 16) := by kernel_rfl
theorem one_str (w : World) (s : ByteArray) (t : TypeId) : ∀ j u, ([Value.string s] : List Value)[j]? = some u → (w.alloc (.cells #[.string s] t)).cell? ((⟨w.heap.size, 0, none⟩ : Addr).add j) = some u := by
  intro j u hu
  cases j with
  | zero =>
    obtain rfl : Value.string s = u := by simpa using hu
    exact cell_of_blk (blk_new w _) 0 rfl
  | succ j => simp at hu
theorem toList_eqbV (s b : ByteArray) : (s.toList == b.toList) = decide (s = b) := by
  rw [Bool.eq_iff_iff, decide_eq_true_eq, beq_iff_eq]
  refine ⟨fun h => ?_, fun h => by rw [h]⟩
  rw [ByteArray.toList_eq, ByteArray.toList_eq] at h
  exact WideShapes.bytes_inj h
end Go.Proofs.YtffolbdimkhmmaaDoor
