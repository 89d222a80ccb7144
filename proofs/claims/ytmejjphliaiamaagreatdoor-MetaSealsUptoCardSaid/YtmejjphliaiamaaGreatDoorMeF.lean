import Derived.Test.YtmejjphliaiamaaGreatDoorMeE
import Derived.Test.YtmejjphliaiamaaGreatDoorQuC
set_option linter.unusedVariables false
set_option linter.unusedSimpArgs false
namespace Go.Proofs.YtmejjphliaiamaaGreatDoor
open Go Go.RowKit Go.Lib

/-! ### a document out of its bytes -/
def sz : SV := ⟨none, 0, 0, 0⟩
def dz : DV := ⟨0, 0, 0, sz, sz, sz, sz, sz, ⟨#[]⟩, ⟨#[]⟩, none, 0, 0, ⟨#[]⟩, 0, ⟨#[]⟩, 0, ⟨#[]⟩⟩
theorem wpList_docst {ops : Array Oper} {rest : List Oper} {o : Oper} {a : Act} {w : World} {Q : Exit → Act → World → Prop} (hgd : o.guard = none) (x y : Operand) (ho : o.op = .store 30 x y) (b : Nat) (d d' : DV) (hx : a.eval x = .pointer (some ⟨b, 0, none⟩)) (hy : a.eval y = .agg (docC d')) (h : DocAt w b d)
    (k : wpList Tryz.prog ops Q rest (a.put o.dst undef) (w.setRow b (docC d'))) : wpList Tryz.prog ops Q (o :: rest) a w :=
  wpList_store_row hgd _ x y ho b (docC d') hx hy 30 (docC d) h (docI d') rfl (docO d') k
theorem wpList_docg {ops : Array Oper} {rest : List Oper} {o : Oper} {a : Act} {w : World} {Q : Exit → Act → World → Prop} (hgd : Region.wanted o (yielded ops a.tmps) = true) (x : Operand) (ho : o.op = .load 30 x) (b : Nat) (d : DV) (hx : a.eval x = .pointer (some ⟨b, 0, none⟩)) (h : DocAt w b d)
    (k : wpList Tryz.prog ops Q rest (a.put o.dst (.agg (docC d))) w) : wpList Tryz.prog ops Q (o :: rest) a w := by
  unfold wpList
  rw [if_pos hgd]
  exact .inl (wp_load_row _ x ho b hx _ (docC d) (0, 0) _ h docU rfl (docI d) k)
theorem step_docld {ops : Array Oper} {o : Oper} {a : Act} {w : World} {K : Act → World → Prop} {Q : Exit → Act → World → Prop} {E : Prop} (hgd : o.guard = none) (x : Operand) (ho : o.op = .load 30 x) (b : Nat) (d : DV) (hx : a.eval x = .pointer (some ⟨b, 0, none⟩)) (h : DocAt w b d)
    (k : K (a.put o.dst (.agg (docC d))) w) : if Region.wanted o (yielded ops a.tmps) = true then Oper.wp Tryz.prog o a w K Q else E := by
  have hw : Region.wanted o (yielded ops a.tmps) = true := by simp [Region.wanted, hgd]
  rw [if_pos hw]
  exact wp_load_row _ x ho b hx _ (docC d) (0, 0) _ h docU rfl (docI d) k
theorem step_docst {ops : Array Oper} {o : Oper} {a : Act} {w : World} {K : Act → World → Prop} {Q : Exit → Act → World → Prop} {E : Prop} (hgd : o.guard = none) (x y : Operand) (ho : o.op = .store 30 x y) (b : Nat) (d d' : DV) (hx : a.eval x = .pointer (some ⟨b, 0, none⟩)) (hy : a.eval y = .agg (docC d')) (h : DocAt w b d)
    (k : K (a.put o.dst undef) (w.setRow b (docC d'))) : if Region.wanted o (yielded ops a.tmps) = true then Oper.wp Tryz.prog o a w K Q else E := by
  have hw : Region.wanted o (yielded ops a.tmps) = true := by simp [Region.wanted, hgd]
  rw [if_pos hw]
  exact wp_store_row _ x y ho b (docC d') hx hy 30 (docC d) h (docI d') rfl (docO d') k
theorem doc_setRow {w : World} {b : Nat} {d : DV} (h : DocAt w b d) (d' : DV) : DocK b d' w (w.setRow b (docC d')) := by
  refine ⟨setRow_heap w b _ _ _ _ h, rfl, rfl, rfl, by simp, fun k hk hb => setRow_other w b k _ hb⟩
theorem doc_ret {fn : Func} {Q : Ending → World → Prop} (a : Act) (w : World) (b : Nat) (d : DV) (e : Int) (h : DocAt w b d)
    (hf : fn.results = #[.cell 2 30, .tmp 3])
    (ha : a.tmps[2]?.getD undef = .pointer (some ⟨b, 0, none⟩)) (hc : a.tmps[3]?.getD undef = .int .i64 e) (hd : a.defers = []) (hQ : Q (.returned (.tuple #[.agg (docC d), .int .i64 e])) w) :
    bodyPost Tryz.prog fn Q Exit.ret a w := by
  refine bodyPost_ret (v := .tuple #[.agg (docC d), .int .i64 e]) ?_ hd hQ
  have hl : (loadVar 30 ⟨b, 0, none⟩).run Tryz.prog w = .ok (.agg (docC d)) w := run_loadVar_row w b _ _ (docC d) (0, 0) _ h docU rfl (docI d)
  simp [results, hf, ha, hc, asAddr, hl]
end Go.Proofs.YtmejjphliaiamaaGreatDoor
