import Derived.Test.YtmejjphliaiamaaGreatDoorQuA
import Derived.Test.YtmejjphliaiamaaGreatDoorSl
import Derived.Laws.Rows
import Derived.Laws.Tables
import Derived.Test.YtmejjphliaiamaaGreatDoorQt
set_option linter.unusedVariables false
set_option linter.unusedSimpArgs false
namespace Go.Proofs.YtmejjphliaiamaaGreatDoor
open Go Go.RowKit Go.Lib Go.Sort

/-! ### a document in memory -/
@[go_sem] theorem me_store_nilFunc {P : Program} {w : World} {a : Addr} {m : Mode} : (store a .nilFunc m).run P w = stored P w a .nilFunc m := run_store P w a _ m rfl
@[go_sem] theorem me_store_func {P : Program} {w : World} {a : Addr} {m : Mode} (fn : Fn) (first captured : Array Value) : (store a (.func fn first captured) m).run P w = stored P w a (.func fn first captured) m := run_store P w a _ m rfl
structure SV where
  ad : Option Addr
  n : Nat
  c : Nat
  need : Int
structure DV where
  kind : Int
  ver : Int
  exp : Int
  s0 : SV
  s1 : SV
  s2 : SV
  s3 : SV
  s4 : SV
  log : ByteArray
  org : ByteArray
  lad : Option Addr
  ln : Nat
  lc : Nat
  pO : ByteArray
  pS : Int
  pR : ByteArray
  of : Int
  hash : ByteArray
def SV.val (s : SV) : Value := .agg #[.slice s.ad s.n s.c, .int .i64 s.need]
def docC (d : DV) : Array Value := #[.int .i64 d.kind, .int .i64 d.ver, .int .i64 d.exp,
  .slice d.s0.ad d.s0.n d.s0.c, .int .i64 d.s0.need, .slice d.s1.ad d.s1.n d.s1.c, .int .i64 d.s1.need, .slice d.s2.ad d.s2.n d.s2.c, .int .i64 d.s2.need, .slice d.s3.ad d.s3.n d.s3.c, .int .i64 d.s3.need,
  .slice d.s4.ad d.s4.n d.s4.c, .int .i64 d.s4.need, .string d.log, .string d.org, .slice d.lad d.ln d.lc, .string d.pO, .int .i64 d.pS, .string d.pR, .int .i64 d.of, .string d.hash]
def docV (d : DV) : Value := .agg (docC d)
def DocAt (w : World) (b : Nat) (d : DV) : Prop := w.heap[b]? = some (.cells (docC d) 30 (0, 0))

theorem docI (d : DV) : (Tryz.prog.info? 30).map (·.size) = some (docC d).size := by
  have h : (Tryz.prog.info? 30).map (·.size) = some 21 := by kernel_rfl
  exact h
theorem docO (d : DV) : (docC d).all (·.oneCell') = true := by
  unfold docC
  simp [Value.oneCell']
/-- a whole document, loaded. -/
theorem DocAt.ld {w : World} {b : Nat} {d : DV} (h : DocAt w b d) : (loadCellsFrom ⟨b, 0, none⟩ 0 21 #[]).run Tryz.prog w = .ok (docC d) w := by
  have := run_loadCells_list (P := Tryz.prog) w ⟨b, 0, none⟩ (docC d).toList (fun j v hv => by
    have hadd : (⟨b, 0, none⟩ : Addr).add j = ⟨b, j, none⟩ := by unfold Addr.add; split <;> simp_all
    rw [hadd, cell_of_row _ _ j (docC d) 30 (0, 0) h]
    simpa using hv)
  have e : (docC d).toList.length = 21 := rfl
  rw [e] at this
  simpa [loadCells] using this
/-- a whole document, stored. -/
theorem DocAt.st {w : World} {b : Nat} {d : DV} (h : DocAt w b d) (d' : DV) : (storeCells ⟨b, 0, none⟩ (docC d').toList 0).run Tryz.prog w = .ok () (w.setRow b (docC d')) := by
  have := run_storeCells_from (P := Tryz.prog) b 30 (docC d').toList 0 (docC d) w h rfl (fun v hv => (Array.all_eq_true_iff_forall_mem.1 (docO d')) v (by simpa using hv))
  simpa using this

theorem docU : Tryz.prog.underlying 30 = some (.struct (Tryz.prog.fieldsOf 30)) := by kernel_rfl
theorem wpList_doc {ops : Array Oper} {rest : List Oper} {o : Oper} {a : Act} {w : World} {Q : Exit → Act → World → Prop} (hgd : o.guard = none) (x : Operand) (ho : o.op = .load 30 x) (b : Nat) (d : DV) (hx : a.eval x = .pointer (some ⟨b, 0, none⟩)) (h : DocAt w b d)
    (k : wpList Tryz.prog ops Q rest (a.put o.dst (.agg (docC d))) w) : wpList Tryz.prog ops Q (o :: rest) a w :=
  wpList_load_row hgd _ x ho b hx _ (docC d) (0, 0) _ h docU rfl (docI d) k

set_option maxRecDepth 100000 in
theorem mnumber_any (x : Int) (w : World) : Calls Tryz.prog 39 #[.int .i64 x] w fun e w' => e = .returned (.bool (decide (1 ≤ x ∧ x ≤ 65535))) ∧ w = w' := by
  obtain ⟨r, hr⟩ : ∃ r, r = decide (1 ≤ x ∧ x ≤ 65535) := ⟨_, rfl⟩
  rw [← hr]
  by_cases h1 : 1 ≤ x
  · by_cases h2 : x ≤ 65535
    · obtain rfl : r = true := by rw [hr]; exact decide_eq_true ⟨h1, h2⟩
      clear hr
      go_enter Tryz.func39, Tryz.ntmps39
      go_wp2_with fail
      go_ret
      exact ⟨rfl, rfl⟩
    · obtain rfl : r = false := by rw [hr]; exact decide_eq_false (fun h => h2 h.2)
      clear hr
      go_enter Tryz.func39, Tryz.ntmps39
      go_wp2_with fail
      go_ret
      exact ⟨rfl, rfl⟩
  · obtain rfl : r = false := by rw [hr]; exact decide_eq_false (fun h => h1 h.1)
    clear hr
    go_enter Tryz.func39, Tryz.ntmps39
    go_wp2_with fail
    go_ret
    exact ⟨rfl, rfl⟩
def tsGood (of : Int) (hash : ByteArray) : Bool := decide (1 ≤ of ∧ of ≤ 65535) && decide (hash.size = 32)
set_option maxRecDepth 100000 in
theorem goodts_any (b : Nat) (d : DV) (w : World) (h : DocAt w b d) : Calls Tryz.prog 104 #[.pointer (some ⟨b, 0, none⟩)] w fun e w' => e = .returned (.bool (tsGood d.of d.hash)) ∧ w = w' := by
  have HC := Lib.hid (mnumber_any d.of w)
  have c19 := cell_of_blk h 19 (v := .int .i64 d.of) rfl
  have c20 := cell_of_blk h 20 (v := .string d.hash) rfl
  clear h
  unfold tsGood
  generalize decide (1 ≤ d.of ∧ d.of ≤ 65535) = p at HC ⊢
  cases p with
  | false =>
    go_enter Tryz.func104, Tryz.ntmps104
    go_wp2_with fail
    refine HC.out.mono ?_
    rintro e w1 ⟨rfl, rfl⟩
    go_wp2_with fail
    go_ret
    exact ⟨rfl, rfl⟩
  | true =>
    obtain ⟨r, hr⟩ : ∃ r, r = (true && decide (d.hash.size = 32)) := ⟨_, rfl⟩
    rw [← hr]
    by_cases h32 : (d.hash.size : Int) = 32
    · have b1 : ((d.hash.size : Int) == 32) = true := beq_iff_eq.2 h32
      obtain rfl : r = true := by rw [hr, decide_eq_true (show d.hash.size = 32 by omega)]; rfl
      clear hr h32
      go_enter Tryz.func104, Tryz.ntmps104
      go_wp2_with fail
      refine HC.out.mono ?_
      rintro e w1 ⟨rfl, rfl⟩
      go_wp2_with fail
      go_ret
      exact ⟨rfl, rfl⟩
    · have b1 : ((d.hash.size : Int) == 32) = false := beq_eq_false_iff_ne.2 h32
      obtain rfl : r = false := by rw [hr, decide_eq_false (show ¬ d.hash.size = 32 by omega)]; rfl
      clear hr h32
      go_enter Tryz.func104, Tryz.ntmps104
      go_wp2_with fail
      refine HC.out.mono ?_
      rintro e w1 ⟨rfl, rfl⟩
      go_wp2_with fail
      go_ret
      exact ⟨rfl, rfl⟩
def DocK (b : Nat) (d : DV) (w w' : World) : Prop := DocAt w' b d ∧ Kp (fun k => k = b) w w'
set_option maxRecDepth 100000 in
theorem zero4_any (b : Nat) (d : DV) (w : World) (h : DocAt w b d) : Calls Tryz.prog 107 #[.pointer (some ⟨b, 0, none⟩)] w fun e w' => e = .returned (.tuple #[]) ∧ DocK b { d with of := 0, hash := ⟨#[]⟩ } w w' := by
  have c19 := cell_of_blk h 19 (v := .int .i64 d.of) rfl
  have c20 := cell_of_blk h 20 (v := .string d.hash) rfl
  have f19 := free_of_blk h 19
  have f20 := free_of_blk h 20
  have HD : Hid (DocK b { d with of := 0, hash := ⟨#[]⟩ } w ((w.setCell ⟨b, 19, none⟩ (.int .i64 0)).setCell ⟨b, 20, none⟩ (.string ⟨#[]⟩))) := Lib.hid ⟨blk_set (blk_set h _) _, ((Kp.refl (fun k => k = b) w).setCell (p := ⟨b, 19, none⟩) (.inl rfl) _).setCell (p := ⟨b, 20, none⟩) (.inl rfl) _⟩
  clear h
  go_enter Tryz.func107, Tryz.ntmps107
  go_wp2_with fail
  go_end0
  exact ⟨rfl, HD.out⟩
def formF (g l t z : Nat) : Value := .agg #[.func (.func g) #[] #[], .func (.func l) #[] #[], .func (.func t) #[] #[], .func (.func z) #[] #[]]
theorem form_ret {fn : Func} {R : Value} (a : Act) (w w0 : World) (b : Nat) (v0 v1 v2 v3 : Value) (ok : Bool) (h : w.heap[b]? = some (.cells #[v0, v1, v2, v3] 82 (0, 0))) (hR : R = .tuple #[.agg #[v0, v1, v2, v3], .bool ok]) (hb : Below w0.heap.size w0 w)
    (hf : fn.results = #[.cell 2 82, .tmp 3])
    (ha : a.tmps[2]?.getD undef = .pointer (some ⟨b, 0, none⟩)) (hc : a.tmps[3]?.getD undef = .bool ok) (hd : a.defers = []) :
    bodyPost Tryz.prog fn (fun e w' => e = .returned R ∧ Below w0.heap.size w0 w') Exit.ret a w := by
  have c0 := cell_of_blk h 0 (v := v0) rfl
  have c1 := cell_of_blk h 1 (v := v1) rfl
  have c2 := cell_of_blk h 2 (v := v2) rfl
  have c3 := cell_of_blk h 3 (v := v3) rfl
  subst hR
  refine bodyPost_ret (v := .tuple #[.agg #[v0, v1, v2, v3], .bool ok]) (by simp only [results, hf]; simp [go_sem, c0, c1, c2, c3, ha, hc]) hd ⟨rfl, hb⟩
theorem form_new (w : World) : (∀ i (hi : i < 4), (w.alloc (.cells #[Value.nilFunc, Value.nilFunc, Value.nilFunc, Value.nilFunc] 82)).cell? ⟨w.heap.size, i, none⟩ = some .nilFunc ∧ (w.alloc (.cells #[Value.nilFunc, Value.nilFunc, Value.nilFunc, Value.nilFunc] 82)).frozen? ⟨w.heap.size, i, none⟩ = false) := by
  intro i hi
  have hb := blk_new w (.cells #[Value.nilFunc, Value.nilFunc, Value.nilFunc, Value.nilFunc] 82)
  match i, hi with
  | 0, _ => exact ⟨cell_of_blk hb 0 (v := .nilFunc) rfl, free_of_blk hb 0⟩
  | 1, _ => exact ⟨cell_of_blk hb 1 (v := .nilFunc) rfl, free_of_blk hb 1⟩
  | 2, _ => exact ⟨cell_of_blk hb 2 (v := .nilFunc) rfl, free_of_blk hb 2⟩
  | 3, _ => exact ⟨cell_of_blk hb 3 (v := .nilFunc) rfl, free_of_blk hb 3⟩
set_option maxRecDepth 100000 in
theorem forms1 (w : World) : Calls Tryz.prog 37 #[.int .i64 1] w fun e w' => e = .returned (.tuple #[formF 92 93 94 95, .bool true]) ∧ Below w.heap.size w w' := by
  obtain ⟨n0, f0⟩ := form_new w 0 (by decide)
  obtain ⟨n1, f1⟩ := form_new w 1 (by decide)
  obtain ⟨n2, f2⟩ := form_new w 2 (by decide)
  obtain ⟨n3, f3⟩ := form_new w 3 (by decide)
  go_enter Tryz.func37, Tryz.ntmps37
  go_wp2_with fail
  exact form_ret _ _ w w.heap.size _ _ _ _ true (blk_new w _) rfl ((Below.refl _ w).alloc (Nat.le_refl _) _) rfl rfl rfl rfl
set_option maxRecDepth 100000 in
theorem forms2 (w : World) : Calls Tryz.prog 37 #[.int .i64 2] w fun e w' => e = .returned (.tuple #[formF 96 97 98 99, .bool true]) ∧ Below w.heap.size w w' := by
  obtain ⟨n0, f0⟩ := form_new w 0 (by decide)
  obtain ⟨n1, f1⟩ := form_new w 1 (by decide)
  obtain ⟨n2, f2⟩ := form_new w 2 (by decide)
  obtain ⟨n3, f3⟩ := form_new w 3 (by decide)
  go_enter Tryz.func37, Tryz.ntmps37
  go_wp2_with fail
  exact form_ret _ _ w w.heap.size _ _ _ _ true (blk_new w _) rfl ((Below.refl _ w).alloc (Nat.le_refl _) _) rfl rfl rfl rfl
set_option maxRecDepth 100000 in
theorem forms3 (w : World) : Calls Tryz.prog 37 #[.int .i64 3] w fun e w' => e = .returned (.tuple #[formF 100 101 102 103, .bool true]) ∧ Below w.heap.size w w' := by
  obtain ⟨n0, f0⟩ := form_new w 0 (by decide)
  obtain ⟨n1, f1⟩ := form_new w 1 (by decide)
  obtain ⟨n2, f2⟩ := form_new w 2 (by decide)
  obtain ⟨n3, f3⟩ := form_new w 3 (by decide)
  go_enter Tryz.func37, Tryz.ntmps37
  go_wp2_with fail
  exact form_ret _ _ w w.heap.size _ _ _ _ true (blk_new w _) rfl ((Below.refl _ w).alloc (Nat.le_refl _) _) rfl rfl rfl rfl
set_option maxRecDepth 100000 in
theorem forms4 (w : World) : Calls Tryz.prog 37 #[.int .i64 4] w fun e w' => e = .returned (.tuple #[formF 104 105 106 107, .bool true]) ∧ Below w.heap.size w w' := by
  obtain ⟨n0, f0⟩ := form_new w 0 (by decide)
  obtain ⟨n1, f1⟩ := form_new w 1 (by decide)
  obtain ⟨n2, f2⟩ := form_new w 2 (by decide)
  obtain ⟨n3, f3⟩ := form_new w 3 (by decide)
  go_enter Tryz.func37, Tryz.ntmps37
  go_wp2_with fail
  exact form_ret _ _ w w.heap.size _ _ _ _ true (blk_new w _) rfl ((Below.refl _ w).alloc (Nat.le_refl _) _) rfl rfl rfl rfl
set_option maxRecDepth 100000 in
theorem forms_none (k : Int) (w : World) (hk : ¬ (1 ≤ k ∧ k ≤ 4)) : Calls Tryz.prog 37 #[.int .i64 k] w fun e w' => e = .returned (.tuple #[.agg #[.nilFunc, .nilFunc, .nilFunc, .nilFunc], .bool false]) ∧ Below w.heap.size w w' := by
  obtain ⟨n0, f0⟩ := form_new w 0 (by decide)
  obtain ⟨n1, f1⟩ := form_new w 1 (by decide)
  obtain ⟨n2, f2⟩ := form_new w 2 (by decide)
  obtain ⟨n3, f3⟩ := form_new w 3 (by decide)
  have e1 : (k == 1) = false := beq_eq_false_iff_ne.2 (by omega)
  have e2 : (k == 2) = false := beq_eq_false_iff_ne.2 (by omega)
  have e3 : (k == 3) = false := beq_eq_false_iff_ne.2 (by omega)
  have e4 : (k == 4) = false := beq_eq_false_iff_ne.2 (by omega)
  go_enter Tryz.func37, Tryz.ntmps37
  go_wp2_with fail
  exact form_ret _ _ w w.heap.size _ _ _ _ false (blk_new w _) rfl ((Below.refl _ w).alloc (Nat.le_refl _) _) rfl rfl rfl rfl

/-! ### a root's five sets; a document that has nothing but its head -/
def setPs (b : Nat) : Array Value := #[.pointer (some ⟨b, 3, none⟩), .pointer (some ⟨b, 5, none⟩), .pointer (some ⟨b, 7, none⟩), .pointer (some ⟨b, 9, none⟩), .pointer (some ⟨b, 11, none⟩)]
set_option maxRecDepth 100000 in
set_option maxHeartbeats 1000000 in
theorem sets_any (b : Nat) (w : World) (h : b < w.heap.size) : Calls Tryz.prog 108 #[.pointer (some ⟨b, 0, none⟩)] w fun e w' => ∃ q, e = .returned (.slice (some ⟨q, 0, none⟩) 5 5) ∧ w.heap.size ≤ q ∧ w'.heap[q]? = some (.cells (setPs b) 134 (0, 0)) ∧ Below w.heap.size w w' := by
  go_enter Tryz.func108, Tryz.ntmps108
  go_wp2_with fail
  refine wp_region_quiet_tail_below 19 (by kernel_rfl) (by kernel_rfl) ?_
  simp only [List.take_succ_cons, List.take_zero, List.drop_succ_cons, List.drop_zero]
  repeat quiet_step (fail)
  refine wpQuiet_nil ?_
  intro w5 hw5
  obtain ⟨⟨dq, osq⟩, hw''⟩ := hw5
  have hb5 : Below w.heap.size w w5 := by rw [hw'']; exact below_regrown w dq osq
  have HB := Lib.hid hb5
  clear hw'' hb5
  go_wp2_with fail
  go_ret
  exact ⟨_, rfl, HB.out.size, blk_new _ _, HB.out.alloc HB.out.size _⟩
def zeroS (s : SV) : Bool := decide (s.n = 0) && decide (s.need = 0)
def setL (d : DV) : List SV := [d.s0, d.s1, d.s2, d.s3, d.s4]
def pointZ (d : DV) : Bool := decide (d.pO = ⟨#[]⟩ ∧ d.pS = 0 ∧ d.pR = ⟨#[]⟩)
def restZ (d : DV) : Bool := decide (d.log = ⟨#[]⟩) && (decide (d.org = ⟨#[]⟩) && (decide (d.ln = 0) && (decide (d.of = 0) && (decide (d.hash = ⟨#[]⟩) && pointZ d))))
def emptyB (d : DV) : Bool := (setL d).all zeroS && restZ d
theorem emp_nil : ByteArray.toList ⟨#[]⟩ = [] := by rw [ByteArray.toList_eq]
theorem ne_emp {x : ByteArray} (h : ¬ x = ⟨#[]⟩) : (x.toList == ByteArray.toList ⟨#[]⟩) = false ∧ x.toList.isEmpty = false := by
  have h1 : (x.toList == ByteArray.toList ⟨#[]⟩) = false := by rw [toList_eqbV]; exact decide_eq_false h
  refine ⟨h1, ?_⟩
  cases hl : x.toList with
  | nil => rw [hl, emp_nil] at h1; exact absurd h1 (by decide)
  | cons a b => rfl
theorem eq_emp : (ByteArray.toList ⟨#[]⟩ == ByteArray.toList ⟨#[]⟩) = true ∧ (ByteArray.toList ⟨#[]⟩).isEmpty = true := by rw [emp_nil]; exact ⟨rfl, rfl⟩
theorem eql_pt (w : World) (d : DV) : (binOp .eql 28 (.agg #[.string d.pO, .int .i64 d.pS, .string d.pR]) (.agg #[.string ⟨#[]⟩, .int .i64 0, .string ⟨#[]⟩])).run Tryz.prog w = .ok (.bool (pointZ d)) w := by
  have u5 := Tryz.underlying9
  have hS : Tryz.prog.underlying 28 = some (.struct (Tryz.prog.fieldsOf 28)) := by kernel_rfl
  have hp : Tryz.prog.stoodInHeld 28 = false := by kernel_rfl
  unfold pointZ
  generalize d.pO = a
  generalize d.pS = n
  generalize d.pR = c
  rw [run_eql_struct, show (10000 : Nat) = 9999 + 1 from rfl, run_equalIn_agg w 9999 28 _ _ hS hp]
  simp only [Program.fieldsOf, Tryz.underlying28]
  by_cases h1 : a = ⟨#[]⟩
  · subst h1
    by_cases h2 : n = 0
    · subst h2
      by_cases h3 : c = ⟨#[]⟩
      · subst h3
        rw [decide_eq_true ⟨rfl, rfl, rfl⟩]
        go_simp
      · obtain ⟨e1, e2⟩ := ne_emp h3
        rw [decide_eq_false (fun h => h3 h.2.2)]
        go_simp
    · have e1 : (n == 0) = false := beq_eq_false_iff_ne.2 h2
      rw [decide_eq_false (fun h => h2 h.2.1)]
      go_simp
  · obtain ⟨e1, e2⟩ := ne_emp h1
    rw [decide_eq_false (fun h => h1 h.1)]
    go_simp

/-! ### has a document nothing but its head -/
theorem setL_at (d : DV) (b : Nat) (w : World) (h : DocAt w b d) (k : Nat) (hk : k < 5) : ∃ s, (setL d)[k]? = some s ∧ w.cell? ⟨b, 3 + 2 * k, none⟩ = some (.slice s.ad s.n s.c) ∧ w.cell? ⟨b, 3 + 2 * k + 1, none⟩ = some (.int .i64 s.need) := by
  match k, hk with
  | 0, _ => exact ⟨d.s0, rfl, cell_of_blk h 3 (v := .slice d.s0.ad d.s0.n d.s0.c) rfl, cell_of_blk h 4 (v := .int .i64 d.s0.need) rfl⟩
  | 1, _ => exact ⟨d.s1, rfl, cell_of_blk h 5 (v := .slice d.s1.ad d.s1.n d.s1.c) rfl, cell_of_blk h 6 (v := .int .i64 d.s1.need) rfl⟩
  | 2, _ => exact ⟨d.s2, rfl, cell_of_blk h 7 (v := .slice d.s2.ad d.s2.n d.s2.c) rfl, cell_of_blk h 8 (v := .int .i64 d.s2.need) rfl⟩
  | 3, _ => exact ⟨d.s3, rfl, cell_of_blk h 9 (v := .slice d.s3.ad d.s3.n d.s3.c) rfl, cell_of_blk h 10 (v := .int .i64 d.s3.need) rfl⟩
  | 4, _ => exact ⟨d.s4, rfl, cell_of_blk h 11 (v := .slice d.s4.ad d.s4.n d.s4.c) rfl, cell_of_blk h 12 (v := .int .i64 d.s4.need) rfl⟩
theorem setPs_at (b q : Nat) (w : World) (h : w.heap[q]? = some (.cells (setPs b) 134 (0, 0))) (k : Nat) (hk : k < 5) : w.cell? ⟨q, k, none⟩ = some (.pointer (some ⟨b, 3 + 2 * k, none⟩)) := by
  match k, hk with
  | 0, _ => exact cell_of_blk h 0 (v := .pointer (some ⟨b, 3, none⟩)) rfl
  | 1, _ => exact cell_of_blk h 1 (v := .pointer (some ⟨b, 5, none⟩)) rfl
  | 2, _ => exact cell_of_blk h 2 (v := .pointer (some ⟨b, 7, none⟩)) rfl
  | 3, _ => exact cell_of_blk h 3 (v := .pointer (some ⟨b, 9, none⟩)) rfl
  | 4, _ => exact cell_of_blk h 4 (v := .pointer (some ⟨b, 11, none⟩)) rfl
def EmRel (d : DV) (w : World) (i : Value) (wr : World) : Prop := ∃ k : Nat, k ≤ 5 ∧ i = .int .i64 k ∧ ((setL d).take k).all zeroS = true ∧ w = wr
theorem setL_len (d : DV) : (setL d).length = 5 := rfl

set_option maxRecDepth 100000 in
set_option maxHeartbeats 4000000 in
theorem empty_any (d : DV) (w : World) : Calls Tryz.prog 40 #[docV d] w fun e w' => e = .returned (.bool (emptyB d)) ∧ Below w.heap.size w w' := by
  have hd : DocAt (w.alloc (.cells (docC d) 30)) w.heap.size d := blk_new _ _
  have hB : Below w.heap.size w (w.alloc (.cells (docC d) 30)) := (Below.refl _ w).alloc (Nat.le_refl _) _
  have hlt : w.heap.size < (w.alloc (.cells (docC d) 30)).heap.size := by rw [size_alloc]; omega
  obtain ⟨w1, hw1⟩ : ∃ w1, w1 = w.alloc (.cells (docC d) 30) := ⟨_, rfl⟩
  rw [← hw1] at hd hB hlt
  have hem : emptyB d = ((setL d).all zeroS && restZ d) := rfl
  unfold docV
  generalize emptyB d = R at hem ⊢
  have HE := Lib.hid hem
  have HD := Lib.hid hd
  have HB := Lib.hid hB
  clear hem hd hB
  go_enter Tryz.func40, Tryz.ntmps40
  go_wp2_with fail
  rw [← hw1]
  clear hw1
  refine (sets_any w.heap.size w1 hlt).mono ?_
  rintro e w2 ⟨q, rfl, hq, hqa, hb2⟩
  have hd2 : DocAt w2 w.heap.size d := blk_later HD.out hb2
  have HD2 := Lib.hid hd2
  have HQ := Lib.hid hqa
  have HB2 := Lib.hid (HB.out.trans (hb2.mono HB.out.size))
  clear hd2 hqa hb2 HD HB
  go_wp2_with fail
  go_loopw [7] (fun i wr => EmRel d w2 i wr) (fun i _ => 5 - (intOf i).toNat)
  case atStart => exact ⟨0, Nat.zero_le _, rfl, rfl, rfl⟩
  case round =>
    obtain ⟨k, hk, rfl, ha, rfl⟩ := hrel
    have HA := Lib.hid ha
    clear ha
    by_cases hlt5 : k < 5
    · obtain ⟨s, hs, c1, c2⟩ := setL_at d w.heap.size w2 HD2.out k hlt5
      have c0 := setPs_at w.heap.size q w2 HQ.out k hlt5
      have hk0 : (0 : Int) ≤ (k : Int) := Int.natCast_nonneg _
      have hk1 : (k : Int) < 5 := by omega
      have HS := Lib.hid hs
      have htk : (setL d).take (k + 1) = (setL d).take k ++ [s] := by
        have h1 : k < (setL d).length := hlt5
        rw [List.take_succ_eq_append_getElem h1]
        rw [List.getElem?_eq_getElem h1] at hs
        rw [Option.some.inj hs]
      have hall : zeroS s = true → ((setL d).take (k + 1)).all zeroS = true := fun h => by rw [htk, List.all_append, HA.out]; simp [h]
      have hno : zeroS s = false → R = false := fun h => by
        rw [HE.out]
        have : (setL d).all zeroS = false := by
          rw [Bool.eq_false_iff]
          intro h2
          have := List.all_eq_true.1 h2 s (List.mem_of_getElem? hs)
          rw [h] at this
          cases this
        rw [this]
        rfl
      have HAll := Lib.hid hall
      have HNo := Lib.hid hno
      clear hs htk hall hno
      by_cases hn : 0 < s.n
      · have hn' : (0 : Int) < (s.n : Int) := by omega
        have hr := Lib.hid (HNo.out (by unfold zeroS; rw [decide_eq_false (show ¬ s.n = 0 by omega)]; rfl))
        go_wp2_with fail
        go_ret
        rw [hr.out]
        exact ⟨rfl, HB2.out⟩
      · have hn' : ¬ (0 : Int) < (s.n : Int) := by omega
        by_cases hz : s.need = 0
        · have e1 : (s.need == 0) = true := beq_iff_eq.2 hz
          have e2 : (s.need != 0) = false := by rw [bne, e1]; rfl
          have hr := Lib.hid (HAll.out (by unfold zeroS; rw [decide_eq_true (show s.n = 0 by omega), decide_eq_true hz]; rfl))
          clear hz
          go_wp2_with fail
          refine ⟨⟨k + 1, hlt5, rfl, hr.out, rfl⟩, ?_⟩
          show 5 - ((k : Int) + 1).toNat < 5 - (k : Int).toNat
          omega
        · have e1 : (s.need == 0) = false := beq_eq_false_iff_ne.2 hz
          have e2 : (s.need != 0) = true := by rw [bne, e1]; rfl
          have hr := Lib.hid (HNo.out (by unfold zeroS; rw [decide_eq_false hz, Bool.and_false]))
          clear hz
          go_wp2_with fail
          go_ret
          rw [hr.out]
          exact ⟨rfl, HB2.out⟩
    · obtain rfl : k = 5 := by omega
      have hall : (setL d).all zeroS = true := HA.out
      have hR : R = restZ d := by rw [HE.out, hall]; rfl
      have HR := Lib.hid hR
      have z13 := cell_of_blk HD2.out 13 (v := .string d.log) rfl
      have z14 := cell_of_blk HD2.out 14 (v := .string d.org) rfl
      have z15 := cell_of_blk HD2.out 15 (v := .slice d.lad d.ln d.lc) rfl
      have z16 := cell_of_blk HD2.out 16 (v := .string d.pO) rfl
      have z17 := cell_of_blk HD2.out 17 (v := .int .i64 d.pS) rfl
      have z18 := cell_of_blk HD2.out 18 (v := .string d.pR) rfl
      have z19 := cell_of_blk HD2.out 19 (v := .int .i64 d.of) rfl
      have z20 := cell_of_blk HD2.out 20 (v := .string d.hash) rfl
      have hpt := fun W => eql_pt W d
      clear hall hR HE HA
      by_cases h1 : d.log = ⟨#[]⟩
      · have gh1 := decide_eq_true h1
        have zh1 : d.log.toList.isEmpty = true := by rw [h1, emp_nil]; rfl
        have yh1 : (d.log.toList == ByteArray.toList ⟨#[]⟩) = true := by rw [h1, emp_nil]; rfl
        have xh1 : d.log.toList = [] := by rw [h1, emp_nil]
        have Gh1 := Lib.hid gh1
        clear gh1 h1
        by_cases h2 : d.org = ⟨#[]⟩
        · have gh2 := decide_eq_true h2
          have zh2 : d.org.toList.isEmpty = true := by rw [h2, emp_nil]; rfl
          have yh2 : (d.org.toList == ByteArray.toList ⟨#[]⟩) = true := by rw [h2, emp_nil]; rfl
          have xh2 : d.org.toList = [] := by rw [h2, emp_nil]
          have Gh2 := Lib.hid gh2
          clear gh2 h2
          by_cases h3 : d.ln = 0
          · have gh3 := decide_eq_true h3
            have zh3 : ((d.ln : Int) == 0) = true := beq_iff_eq.2 (by omega)
            have yh3 : (d.ln : Int) = 0 := by omega
            have Gh3 := Lib.hid gh3
            clear gh3 h3
            by_cases h4 : d.of = 0
            · have gh4 := decide_eq_true h4
              have zh4 : (d.of == 0) = true := beq_iff_eq.2 h4
              have Gh4 := Lib.hid gh4
              clear gh4 h4
              by_cases h5 : d.hash = ⟨#[]⟩
              · have gh5 := decide_eq_true h5
                have zh5 : d.hash.toList.isEmpty = true := by rw [h5, emp_nil]; rfl
                have yh5 : (d.hash.toList == ByteArray.toList ⟨#[]⟩) = true := by rw [h5, emp_nil]; rfl
                have xh5 : d.hash.toList = [] := by rw [h5, emp_nil]
                have Gh5 := Lib.hid gh5
                clear gh5 h5
                cases hp : pointZ d with
                | true =>
                  rw [hp] at hpt
                  have hR : R = true := by rw [HR.out]; unfold restZ; rw [Gh1.out, Gh2.out, Gh3.out, Gh4.out, Gh5.out, hp]; rfl
                  have HX := Lib.hid hR
                  clear hR HR
                  go_wp2_with fail
                  go_ret
                  rw [HX.out]
                  exact ⟨rfl, HB2.out⟩
                | false =>
                  rw [hp] at hpt
                  have hR : R = false := by rw [HR.out]; unfold restZ; rw [Gh1.out, Gh2.out, Gh3.out, Gh4.out, Gh5.out, hp]; rfl
                  have HX := Lib.hid hR
                  clear hR HR
                  go_wp2_with fail
                  go_ret
                  rw [HX.out]
                  exact ⟨rfl, HB2.out⟩
              · have gh5 := decide_eq_false h5
                obtain ⟨yh5, zh5⟩ := ne_emp h5
                have xh5 : ¬ d.hash.toList = [] := fun e => by rw [e] at zh5; cases zh5
                have Gh5 := Lib.hid gh5
                clear gh5 h5
                have hR : R = false := by rw [HR.out]; unfold restZ; rw [Gh1.out, Gh2.out, Gh3.out, Gh4.out, Gh5.out]; rfl
                have HX := Lib.hid hR
                clear hR HR
                go_wp2_with fail
                go_ret
                rw [HX.out]
                exact ⟨rfl, HB2.out⟩
            · have gh4 := decide_eq_false h4
              have zh4 : (d.of == 0) = false := beq_eq_false_iff_ne.2 h4
              have Gh4 := Lib.hid gh4
              clear gh4 h4
              have hR : R = false := by rw [HR.out]; unfold restZ; rw [Gh1.out, Gh2.out, Gh3.out, Gh4.out]; rfl
              have HX := Lib.hid hR
              clear hR HR
              go_wp2_with fail
              go_ret
              rw [HX.out]
              exact ⟨rfl, HB2.out⟩
          · have gh3 := decide_eq_false h3
            have zh3 : ((d.ln : Int) == 0) = false := beq_eq_false_iff_ne.2 (by omega)
            have yh3 : ¬ (d.ln : Int) = 0 := by omega
            have Gh3 := Lib.hid gh3
            clear gh3 h3
            have hR : R = false := by rw [HR.out]; unfold restZ; rw [Gh1.out, Gh2.out, Gh3.out]; rfl
            have HX := Lib.hid hR
            clear hR HR
            go_wp2_with fail
            go_ret
            rw [HX.out]
            exact ⟨rfl, HB2.out⟩
        · have gh2 := decide_eq_false h2
          obtain ⟨yh2, zh2⟩ := ne_emp h2
          have xh2 : ¬ d.org.toList = [] := fun e => by rw [e] at zh2; cases zh2
          have Gh2 := Lib.hid gh2
          clear gh2 h2
          have hR : R = false := by rw [HR.out]; unfold restZ; rw [Gh1.out, Gh2.out]; rfl
          have HX := Lib.hid hR
          clear hR HR
          go_wp2_with fail
          go_ret
          rw [HX.out]
          exact ⟨rfl, HB2.out⟩
      · have gh1 := decide_eq_false h1
        obtain ⟨yh1, zh1⟩ := ne_emp h1
        have xh1 : ¬ d.log.toList = [] := fun e => by rw [e] at zh1; cases zh1
        have Gh1 := Lib.hid gh1
        clear gh1 h1
        have hR : R = false := by rw [HR.out]; unfold restZ; rw [Gh1.out]; rfl
        have HX := Lib.hid hR
        clear hR HR
        go_wp2_with fail
        go_ret
        rw [HX.out]
        exact ⟨rfl, HB2.out⟩

/-! ### is a document good -/
theorem DocAt.later {w w' : World} {b : Nat} {d : DV} (h : DocAt w b d) (k : Below w.heap.size w w') : DocAt w' b d := blk_later h k
def chkB (d d2 : DV) (g : Bool) : Bool := decide (1 ≤ d.ver ∧ d.ver ≤ 65535) && (decide (0 ≤ d.exp ∧ d.exp ≤ 1099511627776) && (g && emptyB d2))
def chkE (b : Bool) : Int := if b = true then 0 else 1
abbrev GoodC (fg : Nat) (d : DV) (g : Bool) (w : World) : Prop := ∀ W b, Below w.heap.size w W → DocAt W b d → Calls Tryz.prog fg #[.pointer (some ⟨b, 0, none⟩)] W fun e w' => e = .returned (.bool g) ∧ Below W.heap.size W w'
abbrev ZeroC (fz : Nat) (d d2 : DV) (w : World) : Prop := ∀ W b, Below w.heap.size w W → DocAt W b d → Calls Tryz.prog fz #[.pointer (some ⟨b, 0, none⟩)] W fun e w' => e = .returned (.tuple #[]) ∧ DocK b d2 W w'
abbrev FormC (k : Int) (fg fl ft fz : Nat) : Prop := ∀ W, Calls Tryz.prog 37 #[.int .i64 k] W fun e w' => e = .returned (.tuple #[formF fg fl ft fz, .bool true]) ∧ Below W.heap.size W w'
abbrev Ent (g : Nat) : Prop := ∀ args w, (callFunc g args).run Tryz.prog w = .ok (.enter g args) w

set_option maxRecDepth 100000 in
set_option maxHeartbeats 4000000 in
theorem check_form (fg fl ft fz : Nat) (d d2 : DV) (g : Bool) (w : World) (eg : Ent fg) (ez : Ent fz) (hf : FormC d.kind fg fl ft fz) (hg : GoodC fg d g w) (hz : ZeroC fz d d2 w) :
    Calls Tryz.prog 10 #[docV d] w fun e w' => e = .returned (.int .i64 (chkE (chkB d d2 g))) ∧ Below w.heap.size w w' := by
  have hd : DocAt (w.alloc (.cells (docC d) 30)) w.heap.size d := blk_new _ _
  have hB : Below w.heap.size w (w.alloc (.cells (docC d) 30)) := (Below.refl _ w).alloc (Nat.le_refl _) _
  have hlt : w.heap.size < (w.alloc (.cells (docC d) 30)).heap.size := by rw [size_alloc]; omega
  obtain ⟨w1, hw1⟩ : ∃ w1, w1 = w.alloc (.cells (docC d) 30) := ⟨_, rfl⟩
  rw [← hw1] at hd hB hlt
  obtain ⟨R, hR⟩ : ∃ R, R = chkE (chkB d d2 g) := ⟨_, rfl⟩
  rw [← hR]
  unfold docV
  have HR := Lib.hid hR
  have HD := Lib.hid hd
  have HB := Lib.hid hB
  have HF := Lib.hid hf
  have HG := Lib.hid hg
  have HZ := Lib.hid hz
  have HN := Lib.hid (fun W => mnumber_any d.ver W)
  unfold FormC formF at HF
  have c0 : (w.alloc (.cells (docC d) 30)).cell? ⟨w.heap.size, 0, none⟩ = some (.int .i64 d.kind) := by rw [← hw1]; exact cell_of_blk hd 0 (v := .int .i64 d.kind) rfl
  clear hR hd hB hf hg hz
  go_enter Tryz.func10, Tryz.ntmps10
  go_wp2_with fail
  rw [← hw1]
  clear hw1
  refine (HF.out w1).mono ?_
  rintro e w2 ⟨rfl, hb2⟩
  have hd2 : DocAt w2 w.heap.size d := HD.out.later hb2
  have HB2 := Lib.hid (HB.out.trans (hb2.mono HB.out.size))
  have HD2 := Lib.hid hd2
  clear hb2 HB HD c0 hd2 HF hlt
  have hd3 : DocAt (w2.alloc (.cells #[.func (.func fg) #[] #[], .func (.func fl) #[] #[], .func (.func ft) #[] #[], .func (.func fz) #[] #[]] 82)) w.heap.size d := blk_alloc HD2.out _
  have hf3 := blk_new w2 (.cells #[.func (.func fg) #[] #[], .func (.func fl) #[] #[], .func (.func ft) #[] #[], .func (.func fz) #[] #[]] 82)
  have hb3 := HB2.out.alloc HB2.out.size (.cells #[.func (.func fg) #[] #[], .func (.func fl) #[] #[], .func (.func ft) #[] #[], .func (.func fz) #[] #[]] 82)
  have hl3 : w2.heap.size < (w2.alloc (.cells #[.func (.func fg) #[] #[], .func (.func fl) #[] #[], .func (.func ft) #[] #[], .func (.func fz) #[] #[]] 82)).heap.size := by rw [size_alloc]; omega
  obtain ⟨n0, f0⟩ := form_new w2 0 (by decide)
  obtain ⟨n1, f1⟩ := form_new w2 1 (by decide)
  obtain ⟨n2, f2⟩ := form_new w2 2 (by decide)
  obtain ⟨n3, f3⟩ := form_new w2 3 (by decide)
  have hwd : w.heap.size < w2.heap.size := (Array.getElem?_eq_some_iff.1 HD2.out).1
  obtain ⟨w3, hw3⟩ : ∃ w3, w3 = w2.alloc (.cells #[.func (.func fg) #[] #[], .func (.func fl) #[] #[], .func (.func ft) #[] #[], .func (.func fz) #[] #[]] 82) := ⟨_, rfl⟩
  rw [← hw3] at hd3 hf3 hb3 hl3
  have c1 : (w2.alloc (.cells #[.func (.func fg) #[] #[], .func (.func fl) #[] #[], .func (.func ft) #[] #[], .func (.func fz) #[] #[]] 82)).cell? ⟨w.heap.size, 1, none⟩ = some (.int .i64 d.ver) := by rw [← hw3]; exact cell_of_blk hd3 1 (v := .int .i64 d.ver) rfl
  have HD3 := Lib.hid hd3
  have HF3 := Lib.hid hf3
  have HB3 := Lib.hid hb3
  clear hd3 hf3 hb3 HB2 HD2
  go_wp2_with fail
  clear n0 n1 n2 n3 f0 f1 f2 f3 c1
  rw [← hw3]
  clear hw3
  have c2 := cell_of_blk HD3.out 2 (v := .int .i64 d.exp) rfl
  have g0 := cell_of_blk HF3.out 0 (v := .func (.func fg) #[] #[]) rfl
  refine (HN.out w3).mono ?_
  rintro e w' ⟨rfl, rfl⟩
  have hR := HR.out
  unfold chkB at hR
  generalize decide (1 ≤ d.ver ∧ d.ver ≤ 65535) = vb at hR ⊢
  clear HN HR
  cases vb with
  | false =>
    have HR := Lib.hid hR
    clear hR
    go_wp2_with fail
    go_ret
    rw [HR.out]
    exact ⟨rfl, HB3.out⟩
  | true =>
  by_cases e0 : d.exp < 0
  · have HR : Hid (R = 1) := Lib.hid (by rw [hR, decide_eq_false (fun h => by omega)]; rfl)
    clear hR
    go_wp2_with fail
    go_ret
    rw [HR.out]
    exact ⟨rfl, HB3.out⟩
  by_cases e1 : 1099511627776 < d.exp
  · have HR : Hid (R = 1) := Lib.hid (by rw [hR, decide_eq_false (fun h => by omega)]; rfl)
    clear hR
    go_wp2_with fail
    go_ret
    rw [HR.out]
    exact ⟨rfl, HB3.out⟩
  have hR2 : R = chkE (g && emptyB d2) := by rw [hR, decide_eq_true ⟨by omega, by omega⟩]; rfl
  have HR2 := Lib.hid hR2
  have HGC := Lib.hid (HG.out w3 w.heap.size HB3.out HD3.out)
  clear hR hR2 HG
  cases g with
  | false =>
    have HR : Hid (R = 1) := Lib.hid HR2.out
    go_wp2_with fail
    refine HGC.out.mono ?_
    rintro e w4 ⟨rfl, hb4⟩
    have HB4 := Lib.hid (HB3.out.trans (hb4.mono HB3.out.size))
    clear hb4
    go_wp2_with fail
    go_ret
    rw [HR.out]
    exact ⟨rfl, HB4.out⟩
  | true =>
    go_wp2_with fail
    refine HGC.out.mono ?_
    rintro e w4 ⟨rfl, hb4⟩
    have HD4 := Lib.hid (HD3.out.later hb4)
    have hf4 := blk_later HF3.out hb4
    have HF4 := Lib.hid hf4
    have g3 := cell_of_blk hf4 3 (v := .func (.func fz) #[] #[]) rfl
    have HB4 := Lib.hid (HB3.out.trans (hb4.mono HB3.out.size))
    clear hb4 hf4 HGC c2 g0
    go_wp2_with fail
    refine (HZ.out w4 w.heap.size HB4.out HD4.out).mono ?_
    rintro e w5 ⟨rfl, hd5, hk5⟩
    have HB5 := Lib.hid (HB4.out.trans (hk5.toBelow HB4.out.size (fun i hi => by omega)))
    have HD5 := Lib.hid hd5
    have hE := empty_any d2 w5
    unfold docV at hE
    have HE := Lib.hid hE
    clear hd5 hk5 hE HB4 HD4 HF4 HF3 HD3 HB3 g3
    generalize emptyB d2 = em at HE HR2
    go_wp2_with (first | refine wpList_doc rfl _ rfl w.heap.size d2 rfl HD5.out ?_ | fail)
    refine HE.out.mono ?_
    rintro e w6 ⟨rfl, hb6⟩
    have HB6 := Lib.hid (HB5.out.trans (hb6.mono HB5.out.size))
    clear hb6
    cases em with
    | false =>
      have HR : Hid (R = 1) := Lib.hid HR2.out
      go_wp2_with fail
      go_ret
      rw [HR.out]
      exact ⟨rfl, HB6.out⟩
    | true =>
      have HR : Hid (R = 0) := Lib.hid HR2.out
      go_wp2_with fail
      go_ret
      rw [HR.out]
      exact ⟨rfl, HB6.out⟩
end Go.Proofs.YtmejjphliaiamaaGreatDoor
