import Derived.Test.YtffolbdimkhmmaaDoorScT
import Derived.Deep.LoopGhost
import Derived.Deep.CutBlock
import Derived.Deep.DeepCutAuto
set_option linter.unusedVariables false
set_option linter.unusedSimpArgs false
namespace Go.Proofs.YtffolbdimkhmmaaDoor
open Go Go.RowKit Go.Lib

/-! ### script.parse: what stands while it goes -/
theorem IntsM.of_own {w : World} {base : Nat} {v : Value} {l : List Int} (h : OwnI w base v l) : IntsM w v l := by
  obtain ⟨ao, cap, hv, h1, h2, h3⟩ := OwnL.form h
  refine ⟨ao, cap, hv, fun i n hn => ?_⟩
  have hi : i < l.length := (List.getElem?_eq_some_iff.1 hn).1
  obtain ⟨g, hg, -, ⟨cur, fz, hh⟩, hc⟩ := h3 (by omega)
  refine ⟨g, 0, hg, ?_⟩
  rw [Nat.zero_add, hc i (by omega)]
  have : ∀ (l : List Int) (j : Nat), (l.flatMap (fun s => [Value.int .i64 s]))[j]? = (l[j]?).map (Value.int .i64) := by
    intro l
    induction l with
    | nil => intro j; rfl
    | cons y r ih =>
      intro j
      cases j with
      | zero => rfl
      | succ j => simpa using ih j
  rw [this, hn]
  rfl
abbrev SaT := StP × Value × Nat
def saidL (x : SaT) : List Value := (saidC x.1 x.2.1 x.2.2).toList
def OwnSa (w : World) (base : Nat) (v : Value) (L : List SaT) : Prop := OwnL TS 7 saidL w base v L
theorem infoSa : (Tryd.prog.info? TS).map (fun i => (i.zero, i.size, i.bytes)) = some (some (.agg #[.int .i64 0, .int .i64 0, .int .i64 0, .int .i64 0, .string ⟨#[]⟩, .slice none 0 0, .int .i64 0]), 7, 80) := by kernel_rfl
/-- a row of one type leaves the blocks of others. -/
theorem own_ne {α : Type} {e : TypeId} {size : Nat} {mk : α → List Value} {w : World} {base : Nat} {v : Value} {l : List α} (h : OwnL e size mk w base v l) {b : Nat} {o : Obj} (hb : w.heap[b]? = some o) (hT : ∀ cs f, o ≠ .cells cs e f) : some b ≠ v.ownBlock := by
  intro e2
  rcases h.2 with ⟨h2, _⟩ | ⟨g, cap, cur, hv, _, hh, _⟩
  · rw [h2] at e2; cases e2
  · rw [hv] at e2
    obtain rfl : b = g := Option.some.inj e2
    rw [hb] at hh
    injection hh with hh
    exact hT _ _ hh
/-- what a text's reading goes by: its lines, the forms, the places. -/
structure EnvU (w : World) (lb : Nat) (ls : List ByteArray) (mF mX a b n : Nat) : Prop where
  lines : w.heap[lb]? = some (.cells (ls.map Value.string).toArray 9 (0, 0))
  forms : OwnsF w mF
  fields : FieldsM w mX a b n
  vars : VarsV w
theorem EnvU.below {w w' : World} {lb : Nat} {ls : List ByteArray} {mF mX a b n : Nat} (h : EnvU w lb ls mF mX a b n) (k : Below w.heap.size w w') : EnvU w' lb ls mF mX a b n :=
  ⟨blk_later h.lines k, h.forms.below k, h.fields.below k, h.vars.below k⟩
/-- what was read: the keep of each. -/
def KeepsM (w : World) (L : List SaT) : Prop := ∀ x ∈ L, OwnI w 0 x.2.1 x.1.keep
theorem KeepsM.below {w w' : World} {L : List SaT} (h : KeepsM w L) (k : Below w.heap.size w w') : KeepsM w' L := fun x hx => (h x hx).below k
def LnRelU (s : ByteArray) (ls : List ByteArray) (w : World) (lb mF mX a b n : Nat) (v i : Value) (wr : World) : Prop :=
  ∃ (k : Nat) (L : List SaT), k ≤ ls.length ∧ i = .int .i64 k ∧ L.length ≤ k ∧ goP 0 ls [] = goP k (ls.drop k) (L.map fun x => (x.1, x.2.2)) ∧ OwnSa wr w.heap.size v L ∧ KeepsM wr L ∧ EnvU wr lb ls mF mX a b n ∧ Below w.heap.size w wr ∧ w.heap.size ≤ wr.heap.size
def SaM (w : World) (v : Value) (L : List SaT) : Prop := (∃ base, OwnSa w base v L) ∧ KeepsM w L
def ParsePost (s : ByteArray) (w : World) (e : Ending) (w' : World) : Prop :=
  ∃ (v : Value) (L : List SaT), e = .returned (.tuple #[v, .int .i64 (parseP s).2.1, .int .i64 (parseP s).2.2]) ∧ (parseP s).1 = L.map (fun x => (x.1, x.2.2)) ∧ SaM w' v L ∧ L.length ≤ 1024 ∧ Below w.heap.size w w'
theorem pred_blank (w : World) : PredGrows Tryd.prog 36 #[] (fun x => x == 32) w := by
  intro W x hx hb
  show Calls Tryd.prog 36 #[.int .i32 x] W _
  go_enter Tryd.func36, Tryd.ntmps36
  go_wp2
  go_ret
  refine ⟨?_, Below.refl _ _⟩
  show Ending.returned (.bool ((x : Int) == 32)) = .returned (.bool (x == 32))
  rw [show ((x : Int) == 32) = (x == 32) by rw [Bool.eq_iff_iff, beq_iff_eq, beq_iff_eq]; omega]
theorem trim_eq (s : ByteArray) : (⟨(Lib.trimSuffix s.data.toList [10]).toArray⟩ : ByteArray) = ⟨(trimNl s.data.toList).toArray⟩ := by
  congr 2
  unfold Lib.trimSuffix trimNl Lib.hasSuffix
  cases hl : s.data.toList.getLast? with
  | none =>
    have : s.data.toList = [] := List.getLast?_eq_none_iff.1 hl
    rw [this]; rfl
  | some c =>
    obtain ⟨ys, hy⟩ := List.getLast?_eq_some_iff.1 hl
    rw [hy]
    by_cases hc : c = 10
    · subst hc
      rw [if_pos rfl, if_pos (by simp [List.isSuffixOf, List.isPrefixOf])]
      simp
    · rw [if_neg (fun e => hc (Option.some.inj e)), if_neg (by simp [List.isSuffixOf, List.isPrefixOf, Ne.symm hc])]
theorem split_lines (s : ByteArray) : (Lib.splitB ⟨#[10]⟩ 0 (Lib.countB ⟨(trimNl s.data.toList).toArray⟩ ⟨#[10]⟩) ⟨(trimNl s.data.toList).toArray⟩) = linesB s := by
  have h : (Lib.splitB ⟨#[10]⟩ 0 (Lib.countB ⟨(trimNl s.data.toList).toArray⟩ ⟨#[10]⟩) ⟨(trimNl s.data.toList).toArray⟩).map (·.data.toList) = cutsL (trimNl s.data.toList) := by
    rw [splitB_data, ← split_nl]
    rfl
  unfold linesB
  rw [← h, List.map_map]
  conv => lhs; rw [← List.map_id (Lib.splitB _ _ _ _)]
  exact List.map_congr_left fun x _ => ba_ext rfl
theorem split_len (s : ByteArray) : Lib.countB ⟨(trimNl s.data.toList).toArray⟩ ⟨#[10]⟩ + 1 = (linesB s).length := by
  rw [← split_lines]
  exact (splitB_all ⟨#[10]⟩ (by decide) 0 _ _ rfl).symm
/-! sizes -/
theorem cuts_le : ∀ (L l : List UInt8), l ∈ cutsL L → l.length ≤ L.length
  | [], l, h => by rw [List.mem_singleton.1 h]; exact Nat.le_refl _
  | c :: r, l, h => by
    unfold cutsL at h
    split at h
    · rcases List.mem_cons.1 h with rfl | h
      · exact Nat.zero_le _
      · have := cuts_le r l h; simp only [List.length_cons]; omega
    · split at h
      · rename_i p q hpq
        rcases List.mem_cons.1 h with rfl | h
        · have := cuts_le r p (by rw [hpq]; simp); simp only [List.length_cons]; omega
        · have := cuts_le r l (by rw [hpq]; simp [h]); simp only [List.length_cons]; omega
      · rw [List.mem_singleton.1 h]; simp
theorem lines_le (s : ByteArray) : ∀ l ∈ linesB s, l.size ≤ s.size := by
  intro l hl
  unfold linesB at hl
  obtain ⟨x, hx, rfl⟩ := List.mem_map.1 hl
  have h1 := cuts_le _ x hx
  have h2 : (trimNl s.data.toList).length ≤ s.data.toList.length := by
    unfold trimNl
    split
    · rw [List.length_dropLast]; omega
    · exact Nat.le_refl _
  rw [size_data, size_data, lnB_data]
  omega
theorem words_le : ∀ (l cur w : List UInt8), w ∈ wordsGo cur l → w.length ≤ cur.length + l.length
  | [], cur, w, h => by
    unfold wordsGo at h
    split at h
    · cases h
    · rw [List.mem_singleton.1 h]; omega
  | c :: r, cur, w, h => by
    unfold wordsGo at h
    split at h
    · split at h
      · have := words_le r [] w h; simp only [List.length_cons, List.length_nil] at this ⊢; omega
      · rcases List.mem_cons.1 h with rfl | h
        · simp only [List.length_cons]; omega
        · have := words_le r [] w h; simp only [List.length_cons, List.length_nil] at this ⊢; omega
    · have := words_le r (cur ++ [c]) w h; simp only [List.length_cons, List.length_append, List.length_nil] at this ⊢; omega
theorem words_len : ∀ (l cur : List UInt8), (wordsGo cur l).length ≤ l.length + 1
  | [], cur => by
    unfold wordsGo
    split <;> simp
  | c :: r, cur => by
    unfold wordsGo
    split
    · split
      · have := words_len r []; simp only [List.length_cons]; omega
      · have := words_len r []; simp only [List.length_cons]; omega
    · have := words_len r (cur ++ [c]); simp only [List.length_cons]; omega
theorem wordsB_le (s : ByteArray) : (wordsB s).length ≤ s.size + 1 ∧ ∀ w ∈ wordsB s, w.size ≤ s.size := by
  refine ⟨?_, fun w hw => ?_⟩
  · unfold wordsB wordsL
    rw [List.length_map, size_data]
    exact words_len _ _
  · unfold wordsB wordsL at hw
    obtain ⟨x, hx, rfl⟩ := List.mem_map.1 hw
    have := words_le _ _ x hx
    rw [size_data, size_data]
    simpa using this
theorem flat_one {α : Type} (f : α → Value) : ∀ l : List α, l.flatMap (fun s => [f s]) = l.map f
  | [] => rfl
  | x :: r => by rw [List.flatMap_cons, List.map_cons, flat_one f r]; rfl
theorem fields_ws (s : ByteArray) (w : World) (hs : s.size ≤ 4294967296) :
    Calls Tryd.prog 35 #[.string s, .func (.func 36) #[] #[]] w fun e w' => ∃ v, e = .returned v ∧ OwnS w' w.heap.size v (wordsB s) ∧ Below w.heap.size w w' := by
  refine (Tryd.strings_FieldsFunc_grows 36 #[] (enters_of Tryd.func36 (by kernel_rfl) rfl) (fun x => x == 32) s w hs (pred_blank w)).mono ?_
  rintro e w' ⟨A, rfl, -, hO, hb⟩
  rw [fields_words] at hO
  refine ⟨_, rfl, ?_, hb⟩
  unfold OwnS OwnL
  rw [flat_one]
  rw [fields_words]
  exact hO
/-- the form of a line's first word, whatever it is. -/
theorem form_any (t : ByteArray) (r : List ByteArray) (ht : t.size ≤ maxLen) (w : World) (mF : Nat) (hF : OwnsF w mF) : ∃ (kk : Nat) (pl : List UInt8) (okf : Bool),
    (Instr.lookup TF (.map (some mF)) (.string t) true).run Tryd.prog w = .ok (.tuple #[.agg #[.int .i64 kk, .string (plB pl)], .bool okf]) w ∧ (∀ c ∈ pl, isPl c) ∧ ((okf = true ∧ fillP pl r (zst kk) = stepP (t :: r)) ∨ (okf = false ∧ stepP (t :: r) = none)) := by
  have hl := look_form w mF t ht hF
  cases hw : formW t with
  | none =>
    rw [hw] at hl
    exact ⟨0, [], false, hl, (fun c hc => by cases hc), .inr ⟨rfl, by rw [stepP, hw]⟩⟩
  | some f =>
    obtain ⟨kk, pl⟩ := f
    rw [hw] at hl
    exact ⟨kk, pl, true, hl, okPl_mem pl (formW_some hw).2, .inl ⟨rfl, by rw [stepP, hw]⟩⟩
theorem has_hash (w : ByteArray) : Lib.hasPrefix w.data.toList [35] = decide (w.data.toList.head? = some 35) := by
  unfold Lib.hasPrefix
  cases h : w.data.toList with
  | nil => rfl
  | cons c r =>
    by_cases hc : c = 35
    · subst hc; rw [List.head?_cons, decide_eq_true rfl]; simp [List.isPrefixOf]
    · rw [List.head?_cons, decide_eq_false (fun e => hc (Option.some.inj e))]; simp [List.isPrefixOf, Ne.symm hc]
/-- while a line's places are filled. -/
structure R2 (x it : Nat) (w5 : World) (pl : List UInt8) (ln : Int) (N : Nat) (R : Option StP) (gf : Nat) (v11 v13 : Value) (wr : World) (j : Nat) (ws : List ByteArray) (s : StP) (kv : Value) (ok : Bool) : Prop where
  hj : j + gf = pl.length
  hv : v13 = .bool ok
  hws : WsM wr x v11 ws
  hwz : ∀ t ∈ ws, t.size ≤ 4000000000
  hst : StB wr x s kv ln
  hbig : ok = true → s.keep.length + ws.length ≤ N
  hres : (ok = true ∧ fillP (pl.drop j) ws s = R) ∨ (ok = false ∧ R = none)
  hit : wr.heap[it]? = some (.stringIter (plB pl) j)
  hbelow : Below x w5 wr
  hlt : x < it
def R2E (x it : Nat) (w5 : World) (pl : List UInt8) (ln : Int) (N : Nat) (R : Option StP) (gf : Nat) (v11 v13 : Value) (wr : World) : Prop := ∃ j ws s kv ok, R2 x it w5 pl ln N R gf v11 v13 wr j ws s kv ok

abbrev TField : TypeId := 74
theorem pl_get (pl : List UInt8) (j : Nat) (h : j < pl.length) : j < (plB pl).size ∧ (plB pl).size = pl.length ∧ ∀ h2, (plB pl)[j]'h2 = pl[j] := by
  have e : (plB pl).size = pl.length := by rw [size_data]; simp [plB]
  refine ⟨by omega, e, fun h2 => ?_⟩
  exact List.getElem_toArray (xs := pl) (i := j) (h := h)
theorem isPl_small (d : UInt8) (hd : isPl d) : d.toNat < 128 := by
  rcases hd with rfl | rfl | rfl | rfl | rfl <;> decide
theorem next_pl (w : World) (it : Nat) (pl : List UInt8) (j : Nat) (hit : w.heap[it]? = some (.stringIter (plB pl) j)) (h : j < pl.length) (hc : isPl pl[j]) :
    ∀ ty, (Instr.next (.pointer (some ⟨it, 0, none⟩)) true ty).run Tryd.prog w = .ok (.tuple #[.bool true, .int .i64 j, .int .i32 (pl[j]).toNat]) (w.iterAt it (plB pl) (j + 1)) := fun ty => by
  obtain ⟨h1, h2, h3⟩ := pl_get pl j h
  have ha : ((plB pl)[j]'h1).toNat < 128 := by
    rw [h3 h1]
    exact isPl_small _ hc
  rw [Lib.run_next_ascii_at w it (plB pl) j ty hit h1 ha, h3 h1]
  rfl
theorem next_end (w : World) (it : Nat) (pl : List UInt8) (hit : w.heap[it]? = some (.stringIter (plB pl) pl.length)) :
    ∀ ty, (Instr.next (.pointer (some ⟨it, 0, none⟩)) true ty).run Tryd.prog w = .ok (.tuple #[.bool false]) w := fun ty =>
  Lib.run_next_end_at w it (plB pl) pl.length ty hit (by
    have e : (plB pl).size = pl.length := by rw [size_data]; simp [plB]
    omega)
theorem iter_kp (w : World) (it : Nat) (s : ByteArray) (p : Nat) : Kp (fun k => k = it) w (w.iterAt it s p) :=
  ⟨rfl, rfl, rfl, by simp [World.iterAt], fun k _ hn => Lib.iterAt_other w it k s p hn⟩
/-- while a place's words are read. -/
structure R3 (x it pb : Nat) (w5 : World) (pl : List UInt8) (ln : Int) (N : Nat) (c : UInt8) (pc : Array Value) (K : Option (StP × List ByteArray)) (jn : Nat) (v11 v13 v18 : Value) (wr : World) (n : Nat) (ws : List ByteArray) (s : StP) (kv : Value) (ok : Bool) : Prop where
  hn : v18 = .int .i64 n
  hv : v13 = .bool ok
  hws : WsM wr x v11 ws
  hwz : ∀ t ∈ ws, t.size ≤ 4000000000
  hst : StB wr x s kv ln
  hbig : ok = true → s.keep.length + ws.length ≤ N
  hres : (ok = true ∧ n ≤ ws.length ∧ takeN c n ws s = K) ∨ (ok = false ∧ K = none)
  hit : wr.heap[it]? = some (.stringIter (plB pl) jn)
  hp : wr.heap[pb]? = some (.cells pc TField (0, 0))
  hbelow : Below x w5 wr
def R3E (x it pb : Nat) (w5 : World) (pl : List UInt8) (ln : Int) (N : Nat) (c : UInt8) (pc : Array Value) (K : Option (StP × List ByteArray)) (jn : Nat) (v11 v13 v18 : Value) (wr : World) : Prop := ∃ n ws s kv ok, R3 x it pb w5 pl ln N c pc K jn v11 v13 v18 wr n ws s kv ok
theorem own_type {α : Type} {e : TypeId} {size : Nat} {mk : α → List Value} {w : World} {base : Nat} {v : Value} {l : List α} (h : OwnL e size mk w base v l) : ∀ g, v.ownBlock = some g → ∃ cur fz, w.heap[g]? = some (.cells cur e fz) := by
  intro g hg
  rcases h.2 with ⟨h2, _⟩ | ⟨g', cap, cur, hv, _, hh, _⟩
  · rw [h2] at hg; cases hg
  · rw [hv] at hg
    obtain rfl : g' = g := Option.some.inj hg
    exact ⟨cur, _, hh⟩
/-- an append to what was read leaves the rest. -/
theorem own_grown {α β : Type} {e e' : TypeId} {size size' : Nat} {mk : α → List Value} {mk' : β → List Value} {w w' : World} {base base' : Nat} {v v' : Value} {l : List α} {l' : List β} (h : OwnL e size mk w base v l) (k : OwnL e' size' mk' w base' v' l') (he : e ≠ e') {o : Obj}
    (hg : (w.alloc o).grownBy w' v'.ownBlock) : OwnL e size mk w' base v l :=
  h.of_block fun g hgv => by
    obtain ⟨cur, fz, hh⟩ := own_type h g hgv
    have hlt := (h.lt g hgv).2
    exact (hg.block g (by rw [size_alloc]; omega) (own_ne k hh (fun cs f e2 => by injection e2 with _ e2; exact he e2))).trans (Below.heap_alloc w o g hlt)
theorem kp_grown {w w' : World} {v : Value} {o : Obj} (hg : (w.alloc o).grownBy w' v.ownBlock) : Kp (fun k => v.ownBlock = some k) w w' :=
  ((Kp.refl _ w).alloc o).grown hg (fun k hk => .inl hk)
theorem EnvU.grown {w w' : World} {lb : Nat} {ls : List ByteArray} {mF mX a b n base : Nat} {v : Value} {L : List SaT} {o : Obj} (h : EnvU w lb ls mF mX a b n) (k : OwnSa w base v L) (hb : nV ≤ base) (hg : (w.alloc o).grownBy w' v.ownBlock) : EnvU w' lb ls mF mX a b n := by
  have kp := kp_grown hg
  have ne : ∀ {i : Nat} {ob : Obj}, w.heap[i]? = some ob → (∀ cs f, ob ≠ .cells cs TS f) → ¬ v.ownBlock = some i := fun hi hT e => own_ne k hi hT e.symm
  obtain ⟨es, ck, hm, -⟩ := id h.forms
  obtain ⟨es2, ck2, hm2, -⟩ := id h.fields.own
  have hcell : ∀ {cs cs' : Array Value} {T : TypeId} {f f' : Nat × Nat}, T ≠ TS → Obj.cells cs T f ≠ .cells cs' TS f' := fun hT e => by injection e with _ e; exact hT e
  refine ⟨blk_kp h.lines kp (ne h.lines fun cs f => hcell (by decide)), h.forms.kept (kp.block _ (World.ownsMap.lt h.forms) (ne hm fun cs f e => by cases e)), h.fields.kp kp (ne hm2 fun cs f e => by cases e) (ne h.fields.a fun cs f => hcell (by decide)) (ne h.fields.b fun cs f => hcell (by decide)) (ne h.fields.n fun cs f => hcell (by decide)), h.vars.kp kp fun i hi => Nat.le_trans hb (k.lt i hi).1⟩
theorem cells_new (w : World) (cs : Array Value) (t : TypeId) : ∀ j u, cs.toList[j]? = some u → (w.alloc (.cells cs t)).cell? ((⟨w.heap.size, 0, none⟩ : Addr).add j) = some u := by
  intro j u hu
  rw [Lib.add_plain, Nat.zero_add]
  exact cell_of_blk (blk_new w _) j (by simpa using hu)
theorem step_end (pl : List UInt8) (ws : List ByteArray) (s : StP) (R : Option StP) (ok : Bool) (h : (ok = true ∧ fillP (pl.drop pl.length) ws s = R) ∨ (ok = false ∧ R = none)) : (ok = true ∧ ws = [] ∧ R = some s) ∨ ((ok = false ∨ 0 < ws.length) ∧ R = none) := by
  rcases h with ⟨h1, h2⟩ | ⟨h1, h2⟩
  · rw [List.drop_length] at h2
    cases ws with
    | nil => exact .inl ⟨h1, rfl, h2.symm⟩
    | cons t r => exact .inr ⟨.inr (by simp), h2.symm⟩
  · exact .inr ⟨.inl h1, h2⟩
/-- the next letter. -/
theorem R2.next {x it : Nat} {w5 : World} {pl : List UInt8} {ln : Int} {N : Nat} {R : Option StP} {gf : Nat} {v11 v13 : Value} {wr : World} {j : Nat} {ws : List ByteArray} {s : StP} {kv : Value} {ok : Bool} (h : R2 x it w5 pl ln N R gf v11 v13 wr j ws s kv ok) :
    let w8 := wr.iterAt it (plB pl) (j + 1)
    WsM w8 x v11 ws ∧ StB w8 x s kv ln ∧ w8.heap[it]? = some (.stringIter (plB pl) (j + 1)) ∧ Below x w5 w8 ∧ it < w8.heap.size := by
  have k := iter_kp wr it (plB pl) (j + 1)
  have hxs : x ≤ wr.heap.size := by have := h.hst.lt; omega
  have hb : Below x wr (wr.iterAt it (plB pl) (j + 1)) := k.toBelow hxs (fun i hi => by subst hi; exact Nat.le_of_lt h.hlt)
  have hit := Lib.iterAt_heap wr it (plB pl) j (j + 1) h.hit
  refine ⟨h.hws.below hb, h.hst.kp k (fun e => by have := h.hlt; omega) (fun g hg e => ?_), hit, h.hbelow.trans hb, (Array.getElem?_eq_some_iff.1 hit).1⟩
  subst e
  exact own_ne h.hst.keep h.hit (fun cs f e => by cases e) hg.symm
set_option maxRecDepth 100000 in
set_option maxHeartbeats 4000000 in
theorem parse_any (s : ByteArray) (w : World) (hs : s.size ≤ 4000000000) (hV : VarsV w) :
    Calls Tryd.prog 19 #[.string s] w (ParsePost s w) := by
  have hst : ∀ W : World, Calls Tryd.prog 34 #[.string s, .string ⟨#[10]⟩] W fun e w' => e = .returned (.string ⟨(trimNl s.data.toList).toArray⟩) ∧ w' = W := fun W => by
    have := Tryd.strings_TrimSuffix s ⟨#[10]⟩ W (by omega)
    rwa [show (⟨#[10]⟩ : ByteArray).data.toList = [10] from rfl, trim_eq] at this
  have htl : (⟨(trimNl s.data.toList).toArray⟩ : ByteArray).size ≤ s.size := by
    rw [size_data, size_data]
    show (trimNl s.data.toList).length ≤ _
    unfold trimNl
    split
    · rw [List.length_dropLast]; omega
    · exact Nat.le_refl _
  have hsp := split_any ⟨(trimNl s.data.toList).toArray⟩ ⟨#[10]⟩ w (by omega) (by decide) hV
  rw [split_len, split_lines] at hsp
  have HS := Lib.hid hst
  have HP := Lib.hid hsp
  have HV := Lib.hid hV
  have HNV := Lib.hid hV.size
  clear hst hsp hV htl
  have hle := lines_le s
  generalize hls : linesB s = ls at HP hle
  have HLE := Lib.hid hle
  clear hle
  have HLS := Lib.hid hls
  clear hls
  have H2 := Lib.hid (show (65536 < s.size ∨ 1024 < ls.length) → parseP s = ([], 0, 4) from fun h => by unfold parseP; rw [HLS.out, if_pos h])
  have H3 := Lib.hid (show ¬ (65536 < s.size ∨ 1024 < ls.length) → parseP s = goP 0 ls [] from fun h => by unfold parseP; rw [HLS.out, if_neg h])
  go_enter Tryd.func19, Tryd.ntmps19
  go_wp2_with fail
  refine (HS.out w).mono ?_
  rintro e w1 ⟨rfl, rfl⟩
  go_wp2_with fail
  refine HP.out.mono ?_
  rintro e w2 ⟨rfl, rfl⟩
  have hb0 := (Below.refl w1.heap.size w1).alloc (Nat.le_refl _) (.cells (ls.map Value.string).toArray 9)
  have hl0 := blk_new w1 (.cells (ls.map Value.string).toArray 9)
  have hV0 := HV.out.below hb0
  have hsz0 : w1.heap.size < (w1.alloc (.cells (ls.map Value.string).toArray 9)).heap.size := by rw [size_alloc]; omega
  generalize w1.alloc (.cells (ls.map Value.string).toArray 9) = w2 at hb0 hl0 hV0 hsz0 ⊢
  have HB0 := Lib.hid hb0
  have HL0 := Lib.hid hl0
  have HV0 := Lib.hid hV0
  clear hb0 hl0 hV0 HV HP
  by_cases hbig : 65536 < s.size
  · have hb : (65536 : Int) < (s.size : Int) := by omega
    have HR := Lib.hid (H2.out (.inl hbig))
    go_wp2_with fail
    go_ret3
    exact ⟨.slice none 0 0, [], by rw [HR.out]; rfl, by rw [HR.out]; rfl, ⟨⟨0, ownL_nil _ _⟩, fun x hx => by cases hx⟩, Nat.zero_le _, HB0.out⟩
  · have hb : ¬ (65536 : Int) < (s.size : Int) := by omega
    by_cases hlong : 1024 < ls.length
    · have hl : (1024 : Int) < (ls.length : Int) := by omega
      have HR := Lib.hid (H2.out (.inr hlong))
      go_wp2_with fail
      go_ret3
      exact ⟨.slice none 0 0, [], by rw [HR.out]; rfl, by rw [HR.out]; rfl, ⟨⟨0, ownL_nil _ _⟩, fun x hx => by cases hx⟩, Nat.zero_le _, HB0.out⟩
    · have hl : ¬ (1024 : Int) < (ls.length : Int) := by omega
      have HR := Lib.hid (H3.out (by omega))
      clear H2 H3 HLS
      go_wp2_with fail
      refine (forms_any _).mono ?_
      rintro e w3 ⟨rfl, hF, hb3⟩
      have hV3 := HV0.out.below hb3
      have hl3 := blk_later HL0.out hb3
      have hB3 := HB0.out.trans (hb3.mono HB0.out.size)
      have HF := Lib.hid hF
      have HV3 := Lib.hid hV3
      have HL3 := Lib.hid hl3
      have HB3 := Lib.hid hB3
      clear hF hb3 hV3 hl3 hB3 HB0 HL0 HV0
      generalize w2.heap.size = mF at HF ⊢
      go_wp2_with fail
      refine (fields_any _).mono ?_
      rintro e w4 ⟨a, b, n, rfl, hX, -, hb4⟩
      have hE : EnvU w4 w1.heap.size ls mF w3.heap.size a b n := ⟨blk_later HL3.out hb4, HF.out.below hb4, hX, HV3.out.below hb4⟩
      have HE := Lib.hid hE
      have HB4 := Lib.hid (HB3.out.trans (hb4.mono HB3.out.size))
      clear hE hX hb4 HF HV3 HL3 HB3
      generalize w3.heap.size = mX at HE ⊢
      obtain ⟨lb, hlb⟩ : ∃ lb, lb = w1.heap.size := ⟨_, rfl⟩
      rw [← hlb] at HE
      have HLB := Lib.hid hlb
      go_wp2_with fail
      rw [← hlb]
      clear hlb
      go_loopw [8, 34] (fun v i wr => LnRelU s ls w1 lb mF mX a b n v i wr) (fun _ i _ => ls.length - (intOf i).toNat)
      case atStart => exact ⟨0, [], Nat.zero_le _, rfl, Nat.le_refl _, rfl, ownL_nil _ _, (fun x hx => by cases hx), HE.out, HB4.out, HB4.out.size⟩
      case round =>
        obtain ⟨k, L, hk, rfl, hLk, hgo, hO, hKp, hE, hB, hsz⟩ := hrel
        have HGo := Lib.hid hgo
        have HO := Lib.hid hO
        have HKp := Lib.hid hKp
        have HE1 := Lib.hid hE
        have HB1 := Lib.hid hB
        clear hgo hO hKp hE hB HE HB4
        by_cases hlt : k < ls.length
        · obtain ⟨ln, hln⟩ : ∃ ln, ls[k]? = some ln := ⟨_, List.getElem?_eq_getElem hlt⟩
          have hd : ls.drop k = ln :: ls.drop (k + 1) := by
            rw [List.drop_eq_getElem_cons hlt]
            rw [List.getElem?_eq_getElem hlt] at hln
            rw [Option.some.inj hln]
          have hcl : wr.cell? ⟨lb, k, none⟩ = some (.string ln) := cell_of_blk HE1.out.lines k (by simp [hln])
          have hlnz := HLE.out ln (List.mem_of_getElem? hln)
          have HD := Lib.hid hd
          have hw0 := wordsB_le ln
          have HW0 := Lib.hid hw0
          have HFW := Lib.hid (fields_ws ln wr (by omega))
          have hk0 : (0 : Int) ≤ (k : Int) := Int.natCast_nonneg _
          have hk1 : (k : Int) < (ls.length : Int) := by omega
          have hgg : parseP s = if ignor (wordsB ln) = true then goP (k + 1) (ls.drop (k + 1)) (L.map fun x => (x.1, x.2.2)) else match stepP (wordsB ln) with
            | none => ([], k + 1, 16)
            | some y => goP (k + 1) (ls.drop (k + 1)) ((L.map fun x => (x.1, x.2.2)) ++ [(y, k + 1)]) := by rw [HR.out, HGo.out, hd, goP_cons]; rfl
          have hgo2 : goP 0 ls [] = if ignor (wordsB ln) = true then goP (k + 1) (ls.drop (k + 1)) (L.map fun x => (x.1, x.2.2)) else match stepP (wordsB ln) with
            | none => ([], k + 1, 16)
            | some y => goP (k + 1) (ls.drop (k + 1)) ((L.map fun x => (x.1, x.2.2)) ++ [(y, k + 1)]) := by rw [← HR.out, hgg]
          have HG2 := Lib.hid hgo2
          have HGP := Lib.hid hgg
          clear hgg hgo2 hw0 hd hln
          go_wp2_with fail
          refine HFW.out.mono ?_
          rintro e w5 ⟨v5, rfl, hws, hb5⟩
          have HE5 := Lib.hid (HE1.out.below hb5)
          have HO5 := Lib.hid (OwnL.below HO.out hb5)
          have HK5 := Lib.hid (HKp.out.below hb5)
          have HB5 := Lib.hid (HB1.out.trans (hb5.mono HB1.out.size))
          have hws5 := ownS_ws hws
          clear hb5 hws HFW hcl
          generalize wordsB ln = ww at hws5 HG2 HGP HW0
          cases ww with
          | nil =>
            obtain ⟨ad, cap, rfl, hcap, hcm, -⟩ := hws5
            have HI := Lib.hid (HG2.out.trans (if_pos rfl))
            clear HG2 HGP
            go_wp2_with fail
            refine ⟨⟨k + 1, L, hlt, rfl, by omega, HI.out, HO5.out, HK5.out, HE5.out, HB5.out, HB5.out.size⟩, ?_⟩
            show ls.length - ((k : Int) + 1).toNat < ls.length - (k : Int).toNat
            omega
          | cons t r =>
            obtain ⟨pb, po, cap, rfl, hpb, hct⟩ := ws_head hws5
            have HWS := Lib.hid hws5
            have hne0 : ((r.length : Int) + 1 == 0) = false := by rw [beq_eq_false_iff_ne]; omega
            have hr0 : (0 : Int) < (r.length : Int) + 1 := by omega
            clear hws5
            have HH := Lib.hid (Tryd.strings_HasPrefix t ⟨#[35]⟩ w5)
            go_wp2_with fail
            refine HH.out.mono ?_
            rw [has_hash]
            by_cases hh : t.data.toList.head? = some 35
            · rw [decide_eq_true hh]
              rintro e w6 ⟨rfl, rfl⟩
              have HI := Lib.hid (HG2.out.trans (if_pos (decide_eq_true hh)))
              clear HG2 HGP HH hh
              go_wp2_with fail
              refine ⟨⟨k + 1, L, hlt, rfl, by omega, HI.out, HO5.out, HK5.out, HE5.out, HB5.out, HB5.out.size⟩, ?_⟩
              show ls.length - ((k : Int) + 1).toNat < ls.length - (k : Int).toNat
              omega
            · rw [decide_eq_false hh]
              rintro e w6 ⟨rfl, rfl⟩
              have hig : ¬ ignor (t :: r) = true := fun e => hh (of_decide_eq_true e)
              have HG3 := Lib.hid (HG2.out.trans (if_neg hig))
              have HGP3 := Lib.hid (HGP.out.trans (if_neg hig))
              obtain ⟨kk, pl, okf, hrun, hpl, hres⟩ := form_any t r (by unfold maxLen; have := HW0.out.2 t (by simp); omega) w6 mF HE5.out.forms
              have HPL := Lib.hid hpl
              have HRes := Lib.hid hres
              obtain ⟨v11, hrs, hwr⟩ := drop_ws HWS.out
              have HWR := Lib.hid hwr
              clear HG2 HGP HH hh hig hpl hres hwr
              have hbA := (Below.refl w6.heap.size w6).alloc (Nat.le_refl _) (.cells #[.int .i64 kk, .string (plB pl)] 69)
              have hEA := HE5.out.below hbA
              have hOA := OwnL.below HO5.out hbA
              have hKA := HK5.out.below hbA
              have hBA := HB5.out.trans (hbA.mono HB5.out.size)
              have hsA : (w6.alloc (.cells #[.int .i64 kk, .string (plB pl)] 69)).heap.size = w6.heap.size + 1 := size_alloc _ _
              obtain ⟨wA, hwA⟩ : ∃ wA, wA = w6.alloc (.cells #[.int .i64 kk, .string (plB pl)] 69) := ⟨_, rfl⟩
              rw [← hwA] at hbA hEA hOA hKA hBA hsA
              have hb7 : Below (w6.heap.size + 1) wA ((wA.alloc (.cells #[.int .i64 kk, .int .i64 0, .int .i64 0, .int .i64 0, .string ⟨#[]⟩, .slice none 0 0, .int .i64 ((k : Int) + 1)] 58)).iter (plB pl) 0) := by
                rw [← hsA]
                exact ((Below.refl wA.heap.size wA).alloc (Nat.le_refl _) _).alloc (by rw [size_alloc]; omega) _
              have h7 : R2 (w6.heap.size + 1) (w6.heap.size + 1 + 1) wA pl ((k : Int) + 1) r.length (stepP (t :: r)) pl.length v11 (.bool okf) ((wA.alloc (.cells #[.int .i64 kk, .int .i64 0, .int .i64 0, .int .i64 0, .string ⟨#[]⟩, .slice none 0 0, .int .i64 ((k : Int) + 1)] 58)).iter (plB pl) 0) 0 r (zst kk) (.slice none 0 0) okf :=
                ⟨Nat.zero_add _, rfl, ((HWR.out.below hbA).base (Nat.le_succ _)).below hb7, fun u hu => by have := HW0.out.2 u (by simp [hu]); omega,
                  ⟨by rw [← hsA]; exact blk_new1 wA _ _, ownL_nil _ _⟩, fun _ => by show 0 + r.length ≤ _; omega, HRes.out, by
                    have := World.iter_heap (wA.alloc (.cells #[.int .i64 kk, .int .i64 0, .int .i64 0, .int .i64 0, .string ⟨#[]⟩, .slice none 0 0, .int .i64 ((k : Int) + 1)] 58)) (plB pl) 0
                    rwa [size_alloc, hsA] at this, hb7, by omega⟩
              have H7 := Lib.hid h7
              have HEA := Lib.hid hEA
              have HOA := Lib.hid hOA
              have HKA := Lib.hid hKA
              have HBA := Lib.hid hBA
              have HSA := Lib.hid hsA
              have HWA := Lib.hid hwA
              clear h7 hEA hOA hKA hBA hsA hbA hb7 HE5 HO5 HK5 HB5 HWS HWR hwA
              go_wp2_with fail
              rw [show w6.alloc (.cells #[.int .i64 kk, .string (plB pl)] 69) = wA from HWA.out.symm]
              have HX := Lib.hid (show w6.heap.size + 1 = wA.heap.size from HSA.out.symm)
              clear HSA HWA
              generalize (wA.alloc (.cells #[.int .i64 kk, .int .i64 0, .int .i64 0, .int .i64 0, .string ⟨#[]⟩, .slice none 0 0, .int .i64 ((k : Int) + 1)] 58)).iter (plB pl) 0 = w7 at H7 ⊢
              generalize hx : w6.heap.size + 1 = x at H7 HX ⊢
              clear hx
              go_loopg [11, 13] pl.length (fun gf v11 v13 wx => R2E x (x + 1) wA pl ((k : Int) + 1) r.length (stepP (t :: r)) gf v11 v13 wx)
              case atStart => exact ⟨0, r, zst kk, .slice none 0 0, okf, H7.out⟩
              case round =>
                clear H7
                obtain ⟨j, ws, st, kv, ok, h2⟩ := hrel
                by_cases hj : j < pl.length
                · have hgk := h2.hj
                  obtain ⟨gk, rfl⟩ : ∃ g', gk = g' + 1 := ⟨gk - 1, by omega⟩
                  have hnx := next_pl wr (x + 1) pl j h2.hit hj (HPL.out _ (List.getElem_mem hj))
                  obtain ⟨hws8, hst8, hit8, hb8, hlt8⟩ := h2.next
                  have hdj : pl.drop j = pl[j] :: pl.drop (j + 1) := List.drop_eq_getElem_cons hj
                  have hcp := HPL.out _ (List.getElem_mem hj)
                  have hres := h2.hres
                  rw [hdj] at hres
                  have hv13 := h2.hv
                  have hwz := h2.hwz
                  have hbg := h2.hbig
                  generalize pl[j] = c at hnx hcp hres
                  generalize wr.iterAt (x + 1) (plB pl) (j + 1) = w8 at hnx hws8 hst8 hit8 hb8 hlt8
                  have hE8 : EnvU w8 lb ls mF mX a b n := HEA.out.below (by rw [← HX.out]; exact hb8)
                  obtain ⟨g, lbc, tv, hfv, ⟨gt, lct, rfl⟩, heg, hrd⟩ := field_read mX a b n c hcp
                  have hlk := look_field w8 mX a b n c hcp hE8.fields
                  rw [hfv] at hlk
                  obtain ⟨K, hK, hRK⟩ : ∃ K : Option (StP × List ByteArray), (((ok && decide (needN c ws ≤ ws.length)) = true ∧ needN c ws ≤ ws.length ∧ takeN c (needN c ws) ws st = K) ∨ ((ok && decide (needN c ws ≤ ws.length)) = false ∧ K = none)) ∧
                      stepP (t :: r) = (match K with | none => none | some q => fillP (pl.drop (j + 1)) q.2 q.1) := by
                    rcases hres with ⟨rfl, hf⟩ | ⟨rfl, hf⟩
                    · rw [fill_take] at hf
                      by_cases hn : needN c ws ≤ ws.length
                      · rw [if_neg (by omega)] at hf
                        exact ⟨_, .inl ⟨by rw [decide_eq_true hn]; rfl, hn, rfl⟩, hf.symm⟩
                      · rw [if_pos (by omega)] at hf
                        exact ⟨none, .inr ⟨by rw [decide_eq_false hn]; rfl, rfl⟩, hf.symm⟩
                    · exact ⟨none, .inr ⟨rfl, rfl⟩, hf⟩
                  have hb9 : Below w8.heap.size w8 (w8.alloc (.cells #[.func (.func g) #[] lbc, .func (.func gt) #[] lct, .bool (decide (c = 75))] TField)) := (Below.refl _ _).alloc (Nat.le_refl _) _
                  have hxs : x ≤ w8.heap.size := by have := hst8.lt; omega
                  have h9 : R3 x (x + 1) w8.heap.size wA pl ((k : Int) + 1) r.length c #[.func (.func g) #[] lbc, .func (.func gt) #[] lct, .bool (decide (c = 75))] K (j + 1) u11 (.bool (ok && decide (needN c ws ≤ ws.length))) (.int .i64 (needN c ws)) (w8.alloc (.cells #[.func (.func g) #[] lbc, .func (.func gt) #[] lct, .bool (decide (c = 75))] TField)) (needN c ws) ws st kv (ok && decide (needN c ws ≤ ws.length)) :=
                    ⟨rfl, rfl, hws8.below (hb9.mono hxs), hwz, hst8.below hb9, (fun e => hbg (by rw [Bool.and_eq_true] at e; exact e.1)), hK, blk_alloc hit8 _, blk_new _ _, hb8.trans (hb9.mono hxs)⟩
                  have H9 := Lib.hid h9
                  have HRK := Lib.hid hRK
                  have HGK := Lib.hid hgk
                  have HRD := Lib.hid hrd
                  have HLT := Lib.hid h2.hlt
                  obtain ⟨ad, cap, hu11, hcap1, hcap2, -⟩ := hws8
                  subst hu11
                  subst hv13
                  clear h9 hb8 hb9 hst8 hit8 hlt8 hE8 hK hRK hres hfv hdj hgk h2 hrd hwz hbg
                  go_upto_if 76 with fail
                  generalize w8.alloc (.cells #[.func (.func g) #[] lbc, .func (.func gt) #[] lct, .bool (decide (c = 75))] TField) = w9 at H9 ⊢
                  go_cut [18] (fun x18 wx => x18 = .int .i64 (needN c ws) ∧ wx = w9)
                  case first =>
                    by_cases h75 : c = 75
                    · have hcb := decide_eq_true h75
                      have hn : needN c ws = ws.length := by unfold needN; rw [if_pos h75]
                      have HN := Lib.hid hn
                      clear hn
                      go_wp2_with fail
                      go_meet
                      exact ⟨by rw [HN.out], rfl⟩
                    · have hcb := decide_eq_false h75
                      have hn : needN c ws = 1 := by unfold needN; rw [if_neg h75]
                      have HN := Lib.hid hn
                      clear hn
                      go_wp2_with fail
                      go_meet
                      exact ⟨by rw [HN.out]; rfl, rfl⟩
                  case rest =>
                    obtain ⟨rfl, rfl⟩ := hcut
                    go_upto_region 21 with fail
                    go_cut [13] (fun x13 wx => x13 = .bool (ok && decide (needN c ws ≤ ws.length)) ∧ wx = wc)
                    case first =>
                      cases ok with
                      | false =>
                        go_wp2_with fail
                        go_meet
                        exact ⟨rfl, rfl⟩
                      | true =>
                        by_cases hn : needN c ws ≤ ws.length
                        · have hni : (needN c ws : Int) ≤ (ws.length : Int) := by omega
                          have HN := Lib.hid (decide_eq_true hn)
                          clear hn
                          go_wp2_with fail
                          go_meet
                          exact ⟨by rw [HN.out]; rfl, rfl⟩
                        · have hni : ¬ (needN c ws : Int) ≤ (ws.length : Int) := by omega
                          have HN := Lib.hid (decide_eq_false hn)
                          clear hn
                          go_wp2_with fail
                          go_meet
                          exact ⟨by rw [HN.out]; rfl, rfl⟩
                    case rest =>
                      obtain ⟨rfl, rfl⟩ := hcut
                      generalize hnn : needN c ws = nn at H9 ⊢
                      generalize ho3 : (ok && decide (nn ≤ ws.length)) = o3 at H9 ⊢
                      clear hnn ho3
                      generalize hp17 : w8.heap.size = pp at H9 ⊢
                      clear hp17
                      go_wp2_with fail
                      go_loopw [11, 13, 18] (fun v11 v13 v18 wx => R3E x (x + 1) pp wA pl ((k : Int) + 1) r.length c #[.func (.func g) #[] lbc, .func (.func gt) #[] lct, .bool (decide (c = 75))] K (j + 1) v11 v13 v18 wx) (fun _ _ i _ => (intOf i).toNat)
                      case atStart => exact ⟨_, _, _, _, _, H9.out⟩
                      case round =>
                        clear H9
                        obtain ⟨n3, ws3, st3, kv3, ok3, h3⟩ := hrel
                        have hv18 := h3.hn
                        have hv13 := h3.hv
                        subst hv18
                        subst hv13
                        have hxs3 : x ≤ wr.heap.size := by have := h3.hst.lt; omega
                        have hn0 : (0 : Int) ≤ (n3 : Int) := Int.natCast_nonneg _
                        rcases h3.hres with ⟨hok, hn3, hK3⟩ | ⟨hok, hK3⟩
                        · subst hok
                          by_cases hz : n3 = 0
                          · subst hz
                            have hfin : fillP (pl.drop (j + 1)) ws3 st3 = stepP (t :: r) := by
                              rw [HRK.out, ← hK3]
                              rfl
                            have H3 := Lib.hid h3
                            have HFin := Lib.hid hfin
                            clear hfin hK3 hn3 h3
                            go_wp2_with fail
                            go_roundg gk
                            case measure => omega
                            case rel => exact ⟨j + 1, ws3, st3, kv3, true, ⟨by have := HGK.out; omega, rfl, H3.out.hws, H3.out.hwz, H3.out.hst, H3.out.hbig, .inl ⟨rfl, HFin.out⟩, H3.out.hit, H3.out.hbelow, HLT.out⟩⟩
                          · obtain ⟨m3, rfl⟩ : ∃ m, n3 = m + 1 := ⟨n3 - 1, by omega⟩
                            obtain ⟨t3, rr3, rfl⟩ : ∃ t3 rr3, ws3 = t3 :: rr3 := by
                              cases ws3 with
                              | nil => simp at hn3
                              | cons t3 rr3 => exact ⟨t3, rr3, rfl⟩
                            have hpos : (0 : Int) < ((m3 + 1 : Nat) : Int) := by omega
                            obtain ⟨pb3, po3, cap3, hu11, hpb3, hct3⟩ := ws_head h3.hws
                            obtain ⟨v11', hrs3, hwr3⟩ := drop_ws h3.hws
                            subst hu11
                            have hr03 : (0 : Int) < (rr3.length : Int) + 1 := by omega
                            have hcp0 := cell_regrown (cell_of_blk h3.hp 0 (v := .func (.func g) #[] lbc) rfl)
                            have hct := cell_regrown hct3
                            have H3 := Lib.hid h3
                            have HK3 := Lib.hid hK3
                            have HN3 := Lib.hid hn3
                            have HWR3 := Lib.hid hwr3
                            clear h3 hK3 hn3 hz hwr3 hct3 hpb3
                            go_wp2_with fail
                            refine wp_region_quiet_tail_below 6 (by kernel_rfl) (by kernel_rfl) ?_
                            simp only [List.take_succ_cons, List.take_zero, List.drop_succ_cons, List.drop_zero]
                            repeat quiet_step (fail)
                            refine wpQuiet_nil ?_
                            intro w10 hw10
                            obtain ⟨⟨dq, osq⟩, hw''⟩ := hw10
                            have hb10 : Below wr.heap.size wr w10 := by rw [hw'']; exact below_regrown wr dq osq
                            have hst10 := H3.out.hst.below hb10
                            have hE10 : EnvU w10 lb ls mF mX a b n := HEA.out.below (by rw [← HX.out]; exact H3.out.hbelow.trans (hb10.mono hxs3))
                            have hcl := HRD.out w10 x st3 kv3 ((k : Int) + 1) t3 hE10.fields hE10.vars hst10 (by have := H3.out.hwz t3 (by simp); omega) (by have h5 := H3.out.hbig rfl; have h6 := HW0.out.1; simp only [List.length_cons] at h5 h6; omega)
                            have HCl := Lib.hid hcl
                            have HB10 := Lib.hid hb10
                            clear hw'' hb10 hst10 hE10 hcl hcp0 hct
                            go_wp2_with fail
                            refine HCl.out.mono ?_
                            rintro e w11 ⟨s11, kv11, rfl, hst11, hput, hk11⟩
                            have hst10 := H3.out.hst.below HB10.out
                            have hx10 : x ≤ w10.heap.size := Nat.le_trans hxs3 HB10.out.size
                            have hb11 : Below x w10 w11 := hk11.toBelow hx10 (fun i hi => by
                              rcases hi with rfl | hi
                              · exact Nat.le_refl _
                              · exact (OwnL.lt hst10.keep i hi).1)
                            have hit10 := blk_later H3.out.hit HB10.out
                            have hp10 := blk_later H3.out.hp HB10.out
                            have hit11 := blk_kp hit10 hk11 (by
                              rintro (e | e)
                              · omega
                              · exact own_ne hst10.keep hit10 (fun cs f e => by cases e) e.symm)
                            have hp11 := blk_kp hp10 hk11 (by
                              rintro (e | e)
                              · rw [e, hst10.blk] at hp10
                                injection hp10 with hp10
                                injection hp10 with _ hp10
                                exact absurd hp10 (by decide)
                              · exact own_ne hst10.keep hp10 (fun cs f e => by injection e with _ e; exact absurd e (by decide)) e.symm)
                            have hws11 := (HWR3.out.below (HB10.out.mono hxs3)).below hb11
                            have hbl11 := H3.out.hbelow.trans ((HB10.out.mono hxs3).trans hb11)
                            have hbig11 : (putP c t3 st3).isSome = true → s11.keep.length + rr3.length ≤ r.length := by
                              intro e
                              obtain ⟨y, hp⟩ := Option.isSome_iff_exists.1 e
                              rw [hput y hp]
                              have h1 := put_keep hp
                              have h2 := H3.out.hbig rfl
                              simp only [List.length_cons] at h2
                              omega
                            have hres11 : ((putP c t3 st3).isSome = true ∧ m3 ≤ rr3.length ∧ takeN c m3 rr3 s11 = K) ∨ ((putP c t3 st3).isSome = false ∧ K = none) := by
                              have hk := HK3.out
                              rw [takeN] at hk
                              have hn := HN3.out
                              simp only [List.length_cons] at hn
                              cases hp : putP c t3 st3 with
                              | none => rw [hp] at hk; exact .inr ⟨rfl, hk.symm⟩
                              | some y => rw [hp] at hk; exact .inl ⟨rfl, by omega, by rw [hput y hp]; exact hk⟩
                            have h11 : R3 x (x + 1) pp wA pl ((k : Int) + 1) r.length c #[.func (.func g) #[] lbc, .func (.func gt) #[] lct, .bool (decide (c = 75))] K (j + 1) v11' (.bool (putP c t3 st3).isSome) (.int .i64 m3) w11 m3 rr3 s11 kv11 (putP c t3 st3).isSome :=
                              ⟨rfl, rfl, hws11, fun u hu => H3.out.hwz u (by simp [hu]), hst11, hbig11, hres11, hit11, hp11, hbl11⟩
                            have H11 := Lib.hid h11
                            clear h11 hres11 hbig11 hws11 hst11 hit11 hp11 hbl11 hput hk11 hst10 hx10 hb11 hit10 hp10 HCl
                            have hm3 : ((m3 + 1 : Nat) : Int) - 1 = (m3 : Int) := by omega
                            have hm30 : (0 : Int) ≤ (m3 : Int) := Int.natCast_nonneg _
                            have hm31 : (m3 : Int) ≤ 9223372036854775807 := by
                              have h5 := H3.out.hbig rfl
                              have h6 := HW0.out.1
                              have h7 := HN3.out
                              simp only [List.length_cons] at h5 h6 h7
                              omega
                            go_wp2_with fail
                            refine ⟨⟨m3, rr3, s11, kv11, _, H11.out⟩, ?_⟩
                            show (m3 : Int).toNat < ((m3 + 1 : Nat) : Int).toNat
                            omega
                        · subst hok
                          have hno : stepP (t :: r) = none := by rw [HRK.out, hK3]
                          have H3 := Lib.hid h3
                          have HNo := Lib.hid hno
                          clear hno hK3 h3
                          go_wp2_with fail
                          go_roundg gk
                          case measure => omega
                          case rel => exact ⟨j + 1, ws3, st3, kv3, false, ⟨by have := HGK.out; omega, rfl, H3.out.hws, H3.out.hwz, H3.out.hst, H3.out.hbig, .inr ⟨rfl, HNo.out⟩, H3.out.hit, H3.out.hbelow, HLT.out⟩⟩
                · have hjj : j = pl.length := by have := h2.hj; omega
                  subst hjj
                  have hne := next_end wr (x + 1) pl h2.hit
                  have hxs : x ≤ wr.heap.size := by have := h2.hst.lt; omega
                  have hBr : Below w1.heap.size w1 wr := HBA.out.trans (h2.hbelow.mono (by rw [HX.out]; exact HBA.out.size))
                  have HBr := Lib.hid hBr
                  have hv13 := h2.hv
                  subst hv13
                  rcases step_end pl ws st _ ok h2.hres with ⟨rfl, rfl, hR⟩ | ⟨hb2, hR⟩
                  · obtain ⟨ad, cap, hu11, hcap1, hcap2, -⟩ := h2.hws
                    subst hu11
                    obtain ⟨kad, kcap, hkv, -⟩ := OwnL.form h2.hst.keep
                    have hbw : Below wA.heap.size wA wr := by rw [← HX.out]; exact h2.hbelow
                    have hOr := OwnL.below HOA.out hbw
                    have hKr := HKA.out.below hbw
                    have hEr := HEA.out.below hbw
                    have hst := h2.hst
                    subst hkv
                    have c0 := hst.cell 0 (v := .int .i64 st.kind) rfl
                    have c1 := hst.cell 1 (v := .int .i64 st.a) rfl
                    have c2 := hst.cell 2 (v := .int .i64 st.b) rfl
                    have c3 := hst.cell 3 (v := .int .i64 st.n) rfl
                    have c4 := hst.cell 4 (v := .string st.text) rfl
                    have c5 := hst.cell 5 (v := .slice kad st.keep.length kcap) rfl
                    have c6 := hst.cell 6 (v := .int .i64 ((k : Int) + 1)) rfl
                    have HG4 := Lib.hid (HG3.out.trans (by rw [hR] : _ = goP (k + 1) (ls.drop (k + 1)) ((L.map fun x => (x.1, x.2.2)) ++ [(st, k + 1)])))
                    have HOr := Lib.hid hOr
                    have HKr := Lib.hid hKr
                    have HEr := Lib.hid hEr
                    have HST := Lib.hid hst
                    clear hOr hKr hEr hst hbw h2 hBr hR
                    obtain ⟨i0, hi, hz0, hz1, hz2⟩ := info_parts infoSa
                    have HI2 := Lib.hid hz2
                    clear hz2
                    go_wp2_with (first | (at_builtin; refine wpList_appL _ rfl _ _ 54 rfl i0 (.agg #[.int .i64 0, .int .i64 0, .int .i64 0, .int .i64 0, .string ⟨#[]⟩, .slice none 0 0, .int .i64 0]) 80 Tryd.underlying54 hi hz0 hz1 HI2.out rfl (by decide) w1.heap.size _ L rfl (OwnL.alloc HOr.out _) (st, .slice kad st.keep.length kcap, k + 1) rfl ⟨wr.heap.size, 0, none⟩ 1 rfl (cells_new wr _ _) ?_ ?_ (by decide) ?_ ?_) | fail)
                    · intro u hu
                      simp only [saidL, saidC, List.mem_cons, List.not_mem_nil, or_false] at hu
                      rcases hu with rfl | rfl | rfl | rfl | rfl | rfl | rfl <;> rfl
                    · omega
                    · first | exact HBr.out.size | (rw [size_alloc]; have := HBr.out.size; omega)
                    intro v12 w12 ho12 hg12 hown12
                    have hbase : w1.heap.size ≤ wr.heap.size := HBr.out.size
                    have hB12 := below_appS HBr.out HOr.out hbase _ hg12
                    have hE12 := HEr.out.grown HOr.out HNV.out hg12
                    have hK12 : KeepsM w12 (L ++ [(st, .slice kad st.keep.length kcap, k + 1)]) := by
                      intro y hy
                      rcases List.mem_append.1 hy with hy | hy
                      · exact own_grown (HKr.out y hy) HOr.out (by decide) hg12
                      · rw [List.mem_singleton.1 hy]
                        exact (own_grown HST.out.keep HOr.out (by decide) hg12).base (fun g hg => Nat.zero_le _)
                    have HF := Lib.hid (And.intro ho12 (And.intro hK12 (And.intro hE12 hB12)))
                    clear ho12 hg12 hown12 hbase hB12 hE12 hK12 c0 c1 c2 c3 c4 c5 c6
                    go_wp2_with fail
                    refine ⟨⟨k + 1, L ++ [((st, Value.slice kad st.keep.length kcap, k + 1) : SaT)], hlt, rfl, by rw [List.length_append]; simp; omega, by rw [List.map_append]; exact HG4.out, HF.out.1, HF.out.2.1, HF.out.2.2.1, HF.out.2.2.2.1, HF.out.2.2.2.2⟩, ?_⟩
                    show ls.length - ((k : Int) + 1).toNat < ls.length - (k : Int).toNat
                    omega
                  · have HP4 := Lib.hid (HGP3.out.trans (by rw [hR] : _ = (([], (k : Int) + 1, 16) : List (StP × Nat) × Int × Int)))
                    obtain ⟨ad, cap, hu11, hcap1, hcap2, -⟩ := h2.hws
                    subst hu11
                    clear h2 hR hBr
                    cases ok with
                    | false =>
                      go_wp2_with fail
                      go_ret3
                      exact ⟨.slice none 0 0, [], by rw [HP4.out]; rfl, by rw [HP4.out]; rfl, ⟨⟨0, ownL_nil _ _⟩, fun x hx => by cases hx⟩, Nat.zero_le _, HBr.out⟩
                    | true =>
                      have hwl : 0 < ws.length := hb2.resolve_left (by decide)
                      have hwi : (0 : Int) < (ws.length : Int) := by omega
                      clear hb2
                      go_wp2_with fail
                      go_ret3
                      exact ⟨.slice none 0 0, [], by rw [HP4.out]; rfl, by rw [HP4.out]; rfl, ⟨⟨0, ownL_nil _ _⟩, fun x hx => by cases hx⟩, Nat.zero_le _, HBr.out⟩
        · obtain rfl : k = ls.length := by omega
          have hfin := HGo.out
          rw [List.drop_length] at hfin
          have hp : parseP s = (L.map (fun x => (x.1, x.2.2)), 0, 0) := by rw [HR.out, hfin]; rfl
          have HPP := Lib.hid hp
          clear hfin hp
          go_wp2_with fail
          go_ret3
          exact ⟨_, L, by rw [HPP.out]; rfl, by rw [HPP.out], ⟨⟨_, HO.out⟩, HKp.out⟩, by omega, HB1.out⟩
end Go.Proofs.YtffolbdimkhmmaaDoor
