import Derived.Test.YtffolbdimkhmmaaDoorProg
import Derived.Test.YtffolbdimkhmmaaDoorWd
import Derived.Lib.AppendStr
import Derived.Laws.BytesString
import Derived.Maps.AppendAt
set_option linter.unusedVariables false
namespace Go.Proofs.YtffolbdimkhmmaaDoor
open Go Go.RowKit Go.Lib

/-! A slice of bytes that a call owns, as a string of bytes. -/
theorem infoU8 : (Tryd.prog.info? 5).map (fun i => (i.zero, i.size, i.bytes)) = some (some (.int .u8 0), 1, 1) := by kernel_rfl
theorem zeroU8 (w : World) : (zeroValue 5).run Tryd.prog w = .ok (.int .u8 0) w := by kernel_rfl

def OwnB (w : World) (base : Nat) (v : Value) (s : ByteArray) : Prop := w.ownsRow base 5 1 v s.size (strCells s)

theorem strCells_append (s t : ByteArray) : strCells (s ++ t) = strCells s ++ strCells t := by
  unfold strCells
  rw [ByteArray.data_append, Array.toList_append, List.map_append]
theorem ownB_nil (w : World) (base : Nat) : OwnB w base (.slice none 0 0) ⟨#[]⟩ := ⟨rfl, .inl ⟨rfl, rfl⟩⟩
theorem OwnB.alloc {w : World} {base : Nat} {v : Value} {s : ByteArray} (h : OwnB w base v s) (o : Obj) : OwnB (w.alloc o) base v s := World.ownsRow.alloc h o
theorem OwnB.drew {w : World} {base : Nat} {v : Value} {s : ByteArray} (h : OwnB w base v s) : OwnB w.drew base v s := h
theorem OwnB.of_block {w w' : World} {base : Nat} {v : Value} {s : ByteArray} (h : OwnB w base v s) (hb : ∀ g, v.ownBlock = some g → w'.heap[g]? = w.heap[g]?) : OwnB w' base v s := by
  refine ⟨h.1, ?_⟩
  rcases h.2 with h2 | ⟨g, cap, cur, hv, hg, hh, r⟩
  · exact .inl h2
  · exact .inr ⟨g, cap, cur, hv, hg, (hb g (by rw [hv]; rfl)).trans hh, r⟩
theorem OwnB.lt {w : World} {base : Nat} {v : Value} {s : ByteArray} (h : OwnB w base v s) : ∀ g, v.ownBlock = some g → base ≤ g ∧ g < w.heap.size := by
  intro g hg
  rcases h.2 with ⟨h2, _⟩ | ⟨g', cap, cur, hv, hb, hh, r⟩
  · rw [h2] at hg; cases hg
  · rw [hv] at hg
    obtain rfl : g' = g := Option.some.inj hg
    exact ⟨hb, (Array.getElem?_eq_some_iff.1 hh).1⟩
/-- .. while blocks below its base, and others than its own, are written. -/
theorem OwnB.kp {S : Nat → Prop} {w w' : World} {base : Nat} {v : Value} {s : ByteArray} (h : OwnB w base v s) (k : Kp S w w') (hS : ∀ g, v.ownBlock = some g → ¬ S g) : OwnB w' base v s :=
  h.of_block fun g hg => k.block g (h.lt g hg).2 (hS g hg)
theorem OwnB.below {w w' : World} {base : Nat} {v : Value} {s : ByteArray} (h : OwnB w base v s) (k : Below w.heap.size w w') : OwnB w' base v s :=
  h.of_block fun g hg => k.block g (h.lt g hg).2

/-- what an owned slice looks like where it is not empty. -/
theorem OwnB.form {w : World} {base : Nat} {v : Value} {s : ByteArray} (h : OwnB w base v s) (hn : 0 < s.size) :
    ∃ g cap, v = .slice (some ⟨g, 0, none⟩) s.size cap ∧ base ≤ g ∧ g < w.heap.size ∧ s.size ≤ cap ∧ ∀ j, j < s.size → w.cell? ⟨g, j, none⟩ = some (.int .u8 (s.data.toList.getD j 0).toNat) := by
  rcases h.2 with ⟨_, h2⟩ | ⟨g, cap, cur, hv, hb, hh, hc, hm, hz, ht⟩
  · omega
  · refine ⟨g, cap, hv, hb, (Array.getElem?_eq_some_iff.1 hh).1, hc, fun j hj => ?_⟩
    refine cell_of_blk hh j ?_
    have h1 : cur.toList[j]? = (strCells s)[j]? := by
      rw [← ht, List.getElem?_take, if_pos (by omega)]
    have h2 : j < s.data.toList.length := by rw [Array.length_toList]; exact hj
    rw [← Array.getElem?_toList, h1]
    unfold strCells
    have h3 : s.data.toList.getD j 0 = s.data.toList[j] := by rw [List.getD_eq_getElem?_getD, List.getElem?_eq_getElem h2]; rfl
    rw [List.getElem?_map, List.getElem?_eq_getElem h2, h3]
    rfl

theorem run_appS {w : World} {base : Nat} {v : Value} {s : ByteArray} (ty : TypeId) (h : OwnB w base v s) (t : ByteArray) (hz : s.size + t.size ≤ 70368744177664) (hb : base ≤ w.heap.size) :
    ∃ v' w', (Builtin.append_ #[41, 9] ty #[v, .string t]).run Tryd.prog w = .ok v' w' ∧ OwnB w' base v' (s ++ t) ∧ w.grownBy w' v.ownBlock := by
  obtain ⟨i0, hi, hz0, hz1, hz2⟩ := info_parts infoU8
  obtain ⟨v', w', hr, ho, hg, _⟩ := run_append_own_string (P := Tryd.prog) w base 41 9 ty 5 i0 Tryd.underlying41 Tryd.underlying9 hi hz0 hz1 hz2 v s.size (strCells s) h t (by unfold maxLen; omega) (by omega) hb
  refine ⟨v', w', hr, ?_, hg⟩
  unfold OwnB
  rw [ByteArray.size_append, strCells_append]
  exact ho

theorem wpList_appS {P : Program} (w : World) {ops : Array Oper} {rest : List Oper} {o : Oper} {a : Act} {Q : Exit → Act → World → Prop} (hP : P = Tryd.prog) (hgd : o.guard = none) (sl x : Operand)
    (ho : o.op = .call { callee := .builtin .append, args := #[sl, x], argTypes := #[41, 9] })
    (base : Nat) (v : Value) (s : ByteArray) (hs : a.eval sl = v) (hown : OwnB w base v s) (t : ByteArray) (hx : a.eval x = .string t) (hz : s.size + t.size ≤ 70368744177664) (hbase : base ≤ w.heap.size)
    (h : ∀ v' w', OwnB w' base v' (s ++ t) → w.grownBy w' v.ownBlock → wpList P ops Q rest (a.put o.dst v') w') : wpList P ops Q (o :: rest) a w := by
  subst hP
  refine wpList_plain hgd fun K hK => ?_
  obtain ⟨v', w', hr, h2, h3⟩ := run_appS (w := w) o.type hown t hz hbase
  unfold Oper.wp execOp
  simp only [ho, resolve, invoke, builtin, Sem.run_bind, Sem.run_pure, Result.andThen_ok, List.map_toArray, List.map_cons, List.map_nil, hs, hx, hr]
  exact hK _ _ (h v' w' h2 h3)

/-- the bytes of another block are laid behind. -/
theorem run_appB {w : World} {base : Nat} {v : Value} {s : ByteArray} (ty : TypeId) (h : OwnB w base v s) (t : ByteArray) (ad : Addr) (c : Nat) (hc : ∀ j u, (strCells t)[j]? = some u → w.cell? (ad.add j) = some u)
    (hz : s.size + t.size ≤ 70368744177664) (hb : base ≤ w.heap.size) :
    ∃ v' w', (Builtin.append_ #[41, 41] ty #[v, .slice (some ad) t.size c]).run Tryd.prog w = .ok v' w' ∧ OwnB w' base v' (s ++ t) ∧ w.grownBy w' v.ownBlock := by
  obtain ⟨i0, hi, hz0, hz1, hz2⟩ := info_parts infoU8
  obtain ⟨v', w', hr, ho, hg, _⟩ := run_append_own_at (P := Tryd.prog) w base 41 ty 5 i0 (.int .u8 0) 1 1 Tryd.underlying41 hi hz0 hz1 hz2 rfl (by decide) v s.size (strCells s) h ad t.size c (strCells t)
    (by rw [strCells_length, Nat.mul_one]) hc (fun u hu => by unfold strCells at hu; obtain ⟨_, _, rfl⟩ := List.mem_map.1 hu; rfl) (by unfold maxLen; omega) (by omega) hb
  refine ⟨v', w', hr, ?_, hg⟩
  unfold OwnB
  rw [ByteArray.size_append, strCells_append]
  exact ho

theorem wpList_appB {P : Program} (w : World) {ops : Array Oper} {rest : List Oper} {o : Oper} {a : Act} {Q : Exit → Act → World → Prop} (hP : P = Tryd.prog) (hgd : o.guard = none) (sl x : Operand)
    (ho : o.op = .call { callee := .builtin .append, args := #[sl, x], argTypes := #[41, 41] })
    (base : Nat) (v : Value) (s : ByteArray) (hs : a.eval sl = v) (hown : OwnB w base v s) (t : ByteArray) (ad : Addr) (m c : Nat) (hx : a.eval x = .slice (some ad) m c) (hm : t.size = m)
    (hc : ∀ j u, (strCells t)[j]? = some u → w.cell? (ad.add j) = some u) (hz : s.size + t.size ≤ 70368744177664) (hbase : base ≤ w.heap.size)
    (h : ∀ v' w', OwnB w' base v' (s ++ t) → w.grownBy w' v.ownBlock → wpList P ops Q rest (a.put o.dst v') w') : wpList P ops Q (o :: rest) a w := by
  subst hP
  subst hm
  refine wpList_plain hgd fun K hK => ?_
  obtain ⟨v', w', hr, h2, h3⟩ := run_appB (w := w) o.type hown t ad c hc hz hbase
  unfold Oper.wp execOp
  simp only [ho, resolve, invoke, builtin, Sem.run_bind, Sem.run_pure, Result.andThen_ok, List.map_toArray, List.map_cons, List.map_nil, hs, hx, hr]
  exact hK _ _ (h v' w' h2 h3)

theorem cells_of_blk {w : World} {g : Nat} {cs : Array Value} {e : TypeId} {f : Nat × Nat} {t : ByteArray} (h : w.heap[g]? = some (.cells cs e f)) (hc : cs.toList = strCells t) :
    ∀ j u, (strCells t)[j]? = some u → w.cell? ((⟨g, 0, none⟩ : Addr).add j) = some u := by
  intro j u hu
  have hadd : (⟨g, 0, none⟩ : Addr).add j = ⟨g, j, none⟩ := by unfold Addr.add; split <;> simp_all
  rw [hadd]
  exact cell_of_blk h j (by rw [← Array.getElem?_toList, hc]; exact hu)

/-- the bytes as a string. -/
theorem foldl_push (l : List UInt8) : ∀ s : ByteArray, ((l.map fun c => ((c.toNat : Nat) : Int)).foldl (fun (r : ByteArray) (n : Int) => r.push (UInt8.ofNat n.toNat)) s).data.toList = s.data.toList ++ l := by
  induction l with
  | nil => intro s; simp
  | cons c l ih =>
    intro s
    rw [List.map_cons, List.foldl_cons, ih]
    have : UInt8.ofNat ((c.toNat : Nat) : Int).toNat = c := by simp
    rw [this, ByteArray.data_push, Array.toList_push, List.append_assoc]
    rfl

theorem run_str {w : World} {base : Nat} {v : Value} {s : ByteArray} (h : OwnB w base v s) : (convert 41 9 v).run Tryd.prog w = .ok (.string s) w := by
  rcases h.2 with ⟨hv, h0⟩ | ⟨g, cap, cur, hv, hb, hh, hc, hm, hz, ht⟩
  · subst hv
    rw [run_convert_bytes_string w _ _ _ _ _ _ Tryd.underlying41 Tryd.underlying5 Tryd.underlying9]
    have : s = ⟨#[]⟩ := ByteArray.size_eq_zero_iff.1 h0
    subst this
    rfl
  · subst hv
    rw [run_convert_bytes_string w _ _ _ _ _ _ Tryd.underlying41 Tryd.underlying5 Tryd.underlying9]
    have hl : (loadCells ⟨g, 0, none⟩ s.size).run Tryd.prog w = .ok ((s.data.toList.map fun c => ((c.toNat : Nat) : Int)).map (Value.int .u8)).toArray w := by
      have e : (s.data.toList.map fun c => ((c.toNat : Nat) : Int)).map (Value.int .u8) = strCells s := by unfold strCells; rw [List.map_map]; rfl
      rw [e]
      have h4 := run_loadCells_list (P := Tryd.prog) (w := w) ⟨g, 0, none⟩ (strCells s) (fun j u hu => by
        have hadd : (⟨g, 0, none⟩ : Addr).add j = ⟨g, j, none⟩ := by unfold Addr.add; split <;> simp_all
        rw [hadd]
        refine cell_of_blk hh j ?_
        rw [← ht, List.getElem?_take] at hu
        split at hu
        · rw [← Array.getElem?_toList]; exact hu
        · cases hu)
      rw [strCells_length] at h4
      exact h4
    rw [run_bytesToString w _ _ _ _ hl]
    congr 2
    exact WideShapes.bytes_inj (by rw [foldl_push]; rfl)

end Go.Proofs.YtffolbdimkhmmaaDoor
