import Derived.Test.YtmejjphliaiamaaGreatDoorQuA
import Derived.Test.YtmejjphliaiamaaGreatDoorSl
import Derived.Laws.Rows
import Derived.Laws.Tables
set_option linter.unusedVariables false
set_option linter.unusedSimpArgs false
namespace Go.Proofs.YtmejjphliaiamaaGreatDoor
open Go Go.RowKit Go.Lib

/-! ### a document in memory -/
@[go_sem] theorem me_store_nilFunc {P : Program} {w : World} {a : Addr} {m : Mode} : (store a .nilFunc m).run P w = stored P w a .nilFunc m := run_store P w a _ m rfl
@[go_sem] theorem me_store_func {P : Program} {w : World} {a : Addr} {m : Mode} (fn : Fn) (first captured : Array Value) : (store a (.func fn first captured) m).run P w = stored P w a (.func fn first captured) m := run_store P w a _ m rfl
structure SV where
  ad : Option Addr
  n : Nat
  c : Nat
  need : Int
structure DV where
  kind : Int
  ver : Int
  exp : Int
  s0 : SV
  s1 : SV
  s2 : SV
  s3 : SV
  s4 : SV
  log : ByteArray
  org : ByteArray
  lad : Option Addr
  ln : Nat
  lc : Nat
  pO : ByteArray
  pS : Int
  pR : ByteArray
  of : Int
  hash : ByteArray
def SV.val (s : SV) : Value := .agg #[.slice s.ad s.n s.c, .int .i64 s.need]
def docC (d : DV) : Array Value := #[.int .i64 d.kind, .int .i64 d.ver, .int .i64 d.exp,
  .slice d.s0.ad d.s0.n d.s0.c, .int .i64 d.s0.need, .slice d.s1.ad d.s1.n d.s1.c, .int .i64 d.s1.need, .slice d.s2.ad d.s2.n d.s2.c, .int .i64 d.s2.need, .slice d.s3.ad d.s3.n d.s3.c, .int .i64 d.s3.need,
  .slice d.s4.ad d.s4.n d.s4.c, .int .i64 d.s4.need, .string d.log, .string d.org, .slice d.lad d.ln d.lc, .string d.pO, .int .i64 d.pS, .string d.pR, .int .i64 d.of, .string d.hash]
def docV (d : DV) : Value := .agg (docC d)
def DocAt (w : World) (b : Nat) (d : DV) : Prop := w.heap[b]? = some (.cells (docC d) 30 (0, 0))

theorem docI (d : DV) : (Tryz.prog.info? 30).map (·.size) = some (docC d).size := by
  have h : (Tryz.prog.info? 30).map (·.size) = some 21 := by kernel_rfl
  exact h
theorem docO (d : DV) : (docC d).all (·.oneCell') = true := by
  unfold docC
  simp [Value.oneCell']
/-- a whole document, loaded. -/
theorem DocAt.ld {w : World} {b : Nat} {d : DV} (h : DocAt w b d) : (loadCellsFrom ⟨b, 0, none⟩ 0 21 #[]).run Tryz.prog w = .ok (docC d) w := by
  have := run_loadCells_list (P := Tryz.prog) w ⟨b, 0, none⟩ (docC d).toList (fun j v hv => by
    have hadd : (⟨b, 0, none⟩ : Addr).add j = ⟨b, j, none⟩ := by unfold Addr.add; split <;> simp_all
    rw [hadd, cell_of_row _ _ j (docC d) 30 (0, 0) h]
    simpa using hv)
  have e : (docC d).toList.length = 21 := rfl
  rw [e] at this
  simpa [loadCells] using this
/-- a whole document, stored. -/
theorem DocAt.st {w : World} {b : Nat} {d : DV} (h : DocAt w b d) (d' : DV) : (storeCells ⟨b, 0, none⟩ (docC d').toList 0).run Tryz.prog w = .ok () (w.setRow b (docC d')) := by
  have := run_storeCells_from (P := Tryz.prog) b 30 (docC d').toList 0 (docC d) w h rfl (fun v hv => (Array.all_eq_true_iff_forall_mem.1 (docO d')) v (by simpa using hv))
  simpa using this

theorem docU : Tryz.prog.underlying 30 = some (.struct (Tryz.prog.fieldsOf 30)) := by kernel_rfl
theorem wpList_doc {ops : Array Oper} {rest : List Oper} {o : Oper} {a : Act} {w : World} {Q : Exit → Act → World → Prop} (hgd : o.guard = none) (x : Operand) (ho : o.op = .load 30 x) (b : Nat) (d : DV) (hx : a.eval x = .pointer (some ⟨b, 0, none⟩)) (h : DocAt w b d)
    (k : wpList Tryz.prog ops Q rest (a.put o.dst (.agg (docC d))) w) : wpList Tryz.prog ops Q (o :: rest) a w :=
  wpList_load_row hgd _ x ho b hx _ (docC d) (0, 0) _ h docU rfl (docI d) k

set_option maxRecDepth 100000 in
theorem mnumber_any (x : Int) (w : World) : Calls Tryz.prog 39 #[.int .i64 x] w fun e w' => e = .returned (.bool (decide (1 ≤ x ∧ x ≤ 65535))) ∧ w = w' := by
  obtain ⟨r, hr⟩ : ∃ r, r = decide (1 ≤ x ∧ x ≤ 65535) := ⟨_, rfl⟩
  rw [← hr]
  by_cases h1 : 1 ≤ x
  · by_cases h2 : x ≤ 65535
    · obtain rfl : r = true := by rw [hr]; exact decide_eq_true ⟨h1, h2⟩
      clear hr
      go_enter Tryz.func39, Tryz.ntmps39
      go_wp2_with fail
      go_ret
      exact ⟨rfl, rfl⟩
    · obtain rfl : r = false := by rw [hr]; exact decide_eq_false (fun h => h2 h.2)
      clear hr
      go_enter Tryz.func39, Tryz.ntmps39
      go_wp2_with fail
      go_ret
      exact ⟨rfl, rfl⟩
  · obtain rfl : r = false := by rw [hr]; exact decide_eq_false (fun h => h1 h.1)
    clear hr
    go_enter Tryz.func39, Tryz.ntmps39
    go_wp2_with fail
    go_ret
    exact ⟨rfl, rfl⟩
def tsGood (of : Int) (hash : ByteArray) : Bool := decide (1 ≤ of ∧ of ≤ 65535) && decide (hash.size = 32)
set_option maxRecDepth 100000 in
theorem goodts_any (b : Nat) (d : DV) (w : World) (h : DocAt w b d) : Calls Tryz.prog 104 #[.pointer (some ⟨b, 0, none⟩)] w fun e w' => e = .returned (.bool (tsGood d.of d.hash)) ∧ w = w' := by
  have HC := Lib.hid (mnumber_any d.of w)
  have c19 := cell_of_blk h 19 (v := .int .i64 d.of) rfl
  have c20 := cell_of_blk h 20 (v := .string d.hash) rfl
  clear h
  unfold tsGood
  generalize decide (1 ≤ d.of ∧ d.of ≤ 65535) = p at HC ⊢
  cases p with
  | false =>
    go_enter Tryz.func104, Tryz.ntmps104
    go_wp2_with fail
    refine HC.out.mono ?_
    rintro e w1 ⟨rfl, rfl⟩
    go_wp2_with fail
    go_ret
    exact ⟨rfl, rfl⟩
  | true =>
    obtain ⟨r, hr⟩ : ∃ r, r = (true && decide (d.hash.size = 32)) := ⟨_, rfl⟩
    rw [← hr]
    by_cases h32 : (d.hash.size : Int) = 32
    · have b1 : ((d.hash.size : Int) == 32) = true := beq_iff_eq.2 h32
      obtain rfl : r = true := by rw [hr, decide_eq_true (show d.hash.size = 32 by omega)]; rfl
      clear hr h32
      go_enter Tryz.func104, Tryz.ntmps104
      go_wp2_with fail
      refine HC.out.mono ?_
      rintro e w1 ⟨rfl, rfl⟩
      go_wp2_with fail
      go_ret
      exact ⟨rfl, rfl⟩
    · have b1 : ((d.hash.size : Int) == 32) = false := beq_eq_false_iff_ne.2 h32
      obtain rfl : r = false := by rw [hr, decide_eq_false (show ¬ d.hash.size = 32 by omega)]; rfl
      clear hr h32
      go_enter Tryz.func104, Tryz.ntmps104
      go_wp2_with fail
      refine HC.out.mono ?_
      rintro e w1 ⟨rfl, rfl⟩
      go_wp2_with fail
      go_ret
      exact ⟨rfl, rfl⟩
def DocK (b : Nat) (d : DV) (w w' : World) : Prop := DocAt w' b d ∧ Kp (fun k => k = b) w w'
set_option maxRecDepth 100000 in
theorem zero4_any (b : Nat) (d : DV) (w : World) (h : DocAt w b d) : Calls Tryz.prog 107 #[.pointer (some ⟨b, 0, none⟩)] w fun e w' => e = .returned (.tuple #[]) ∧ DocK b { d with of := 0, hash := ⟨#[]⟩ } w w' := by
  have c19 := cell_of_blk h 19 (v := .int .i64 d.of) rfl
  have c20 := cell_of_blk h 20 (v := .string d.hash) rfl
  have f19 := free_of_blk h 19
  have f20 := free_of_blk h 20
  have HD : Hid (DocK b { d with of := 0, hash := ⟨#[]⟩ } w ((w.setCell ⟨b, 19, none⟩ (.int .i64 0)).setCell ⟨b, 20, none⟩ (.string ⟨#[]⟩))) := Lib.hid ⟨blk_set (blk_set h _) _, ((Kp.refl (fun k => k = b) w).setCell (p := ⟨b, 19, none⟩) (.inl rfl) _).setCell (p := ⟨b, 20, none⟩) (.inl rfl) _⟩
  clear h
  go_enter Tryz.func107, Tryz.ntmps107
  go_wp2_with fail
  go_end0
  exact ⟨rfl, HD.out⟩
def formF (g l t z : Nat) : Value := .agg #[.func (.func g) #[] #[], .func (.func l) #[] #[], .func (.func t) #[] #[], .func (.func z) #[] #[]]
theorem form_ret {fn : Func} {R : Value} (a : Act) (w w0 : World) (b : Nat) (v0 v1 v2 v3 : Value) (ok : Bool) (h : w.heap[b]? = some (.cells #[v0, v1, v2, v3] 82 (0, 0))) (hR : R = .tuple #[.agg #[v0, v1, v2, v3], .bool ok]) (hb : Below w0.heap.size w0 w)
    (hf : fn.results = #[.cell 2 82, .tmp 3])
    (ha : a.tmps[2]?.getD undef = .pointer (some ⟨b, 0, none⟩)) (hc : a.tmps[3]?.getD undef = .bool ok) (hd : a.defers = []) :
    bodyPost Tryz.prog fn (fun e w' => e = .returned R ∧ Below w0.heap.size w0 w') Exit.ret a w := by
  have c0 := cell_of_blk h 0 (v := v0) rfl
  have c1 := cell_of_blk h 1 (v := v1) rfl
  have c2 := cell_of_blk h 2 (v := v2) rfl
  have c3 := cell_of_blk h 3 (v := v3) rfl
  subst hR
  refine bodyPost_ret (v := .tuple #[.agg #[v0, v1, v2, v3], .bool ok]) (by simp only [results, hf]; simp [go_sem, c0, c1, c2, c3, ha, hc]) hd ⟨rfl, hb⟩
theorem form_new (w : World) : (∀ i (hi : i < 4), (w.alloc (.cells #[Value.nilFunc, Value.nilFunc, Value.nilFunc, Value.nilFunc] 82)).cell? ⟨w.heap.size, i, none⟩ = some .nilFunc ∧ (w.alloc (.cells #[Value.nilFunc, Value.nilFunc, Value.nilFunc, Value.nilFunc] 82)).frozen? ⟨w.heap.size, i, none⟩ = false) := by
  intro i hi
  have hb := blk_new w (.cells #[Value.nilFunc, Value.nilFunc, Value.nilFunc, Value.nilFunc] 82)
  match i, hi with
  | 0, _ => exact ⟨cell_of_blk hb 0 (v := .nilFunc) rfl, free_of_blk hb 0⟩
  | 1, _ => exact ⟨cell_of_blk hb 1 (v := .nilFunc) rfl, free_of_blk hb 1⟩
  | 2, _ => exact ⟨cell_of_blk hb 2 (v := .nilFunc) rfl, free_of_blk hb 2⟩
  | 3, _ => exact ⟨cell_of_blk hb 3 (v := .nilFunc) rfl, free_of_blk hb 3⟩
set_option maxRecDepth 100000 in
theorem forms1 (w : World) : Calls Tryz.prog 37 #[.int .i64 1] w fun e w' => e = .returned (.tuple #[formF 92 93 94 95, .bool true]) ∧ Below w.heap.size w w' := by
  obtain ⟨n0, f0⟩ := form_new w 0 (by decide)
  obtain ⟨n1, f1⟩ := form_new w 1 (by decide)
  obtain ⟨n2, f2⟩ := form_new w 2 (by decide)
  obtain ⟨n3, f3⟩ := form_new w 3 (by decide)
  go_enter Tryz.func37, Tryz.ntmps37
  go_wp2_with fail
  exact form_ret _ _ w w.heap.size _ _ _ _ true (blk_new w _) rfl ((Below.refl _ w).alloc (Nat.le_refl _) _) rfl rfl rfl rfl
set_option maxRecDepth 100000 in
theorem forms2 (w : World) : Calls Tryz.prog 37 #[.int .i64 2] w fun e w' => e = .returned (.tuple #[formF 96 97 98 99, .bool true]) ∧ Below w.heap.size w w' := by
  obtain ⟨n0, f0⟩ := form_new w 0 (by decide)
  obtain ⟨n1, f1⟩ := form_new w 1 (by decide)
  obtain ⟨n2, f2⟩ := form_new w 2 (by decide)
  obtain ⟨n3, f3⟩ := form_new w 3 (by decide)
  go_enter Tryz.func37, Tryz.ntmps37
  go_wp2_with fail
  exact form_ret _ _ w w.heap.size _ _ _ _ true (blk_new w _) rfl ((Below.refl _ w).alloc (Nat.le_refl _) _) rfl rfl rfl rfl
set_option maxRecDepth 100000 in
theorem forms3 (w : World) : Calls Tryz.prog 37 #[.int .i64 3] w fun e w' => e = .returned (.tuple #[formF 100 101 102 103, .bool true]) ∧ Below w.heap.size w w' := by
  obtain ⟨n0, f0⟩ := form_new w 0 (by decide)
  obtain ⟨n1, f1⟩ := form_new w 1 (by decide)
  obtain ⟨n2, f2⟩ := form_new w 2 (by decide)
  obtain ⟨n3, f3⟩ := form_new w 3 (by decide)
  go_enter Tryz.func37, Tryz.ntmps37
  go_wp2_with fail
  exact form_ret _ _ w w.heap.size _ _ _ _ true (blk_new w _) rfl ((Below.refl _ w).alloc (Nat.le_refl _) _) rfl rfl rfl rfl
set_option maxRecDepth 100000 in
theorem forms4 (w : World) : Calls Tryz.prog 37 #[.int .i64 4] w fun e w' => e = .returned (.tuple #[formF 104 105 106 107, .bool true]) ∧ Below w.heap.size w w' := by
  obtain ⟨n0, f0⟩ := form_new w 0 (by decide)
  obtain ⟨n1, f1⟩ := form_new w 1 (by decide)
  obtain ⟨n2, f2⟩ := form_new w 2 (by decide)
  obtain ⟨n3, f3⟩ := form_new w 3 (by decide)
  go_enter Tryz.func37, Tryz.ntmps37
  go_wp2_with fail
  exact form_ret _ _ w w.heap.size _ _ _ _ true (blk_new w _) rfl ((Below.refl _ w).alloc (Nat.le_refl _) _) rfl rfl rfl rfl
set_option maxRecDepth 100000 in
theorem forms_none (k : Int) (w : World) (hk : ¬ (1 ≤ k ∧ k ≤ 4)) : Calls Tryz.prog 37 #[.int .i64 k] w fun e w' => e = .returned (.tuple #[.agg #[.nilFunc, .nilFunc, .nilFunc, .nilFunc], .bool false]) ∧ Below w.heap.size w w' := by
  obtain ⟨n0, f0⟩ := form_new w 0 (by decide)
  obtain ⟨n1, f1⟩ := form_new w 1 (by decide)
  obtain ⟨n2, f2⟩ := form_new w 2 (by decide)
  obtain ⟨n3, f3⟩ := form_new w 3 (by decide)
  have e1 : (k == 1) = false := beq_eq_false_iff_ne.2 (by omega)
  have e2 : (k == 2) = false := beq_eq_false_iff_ne.2 (by omega)
  have e3 : (k == 3) = false := beq_eq_false_iff_ne.2 (by omega)
  have e4 : (k == 4) = false := beq_eq_false_iff_ne.2 (by omega)
  go_enter Tryz.func37, Tryz.ntmps37
  go_wp2_with fail
  exact form_ret _ _ w w.heap.size _ _ _ _ false (blk_new w _) rfl ((Below.refl _ w).alloc (Nat.le_refl _) _) rfl rfl rfl rfl
end Go.Proofs.YtmejjphliaiamaaGreatDoor
