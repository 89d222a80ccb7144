import Derived.Test.YtobepddifflpdaaMirA
import Derived.Test.YtobepddifflpdaaWd
set_option linter.unusedVariables false
namespace Go.Proofs.Ytobepddifflpdaa
open Go Go.RowKit Go.Maps Go.WideMaps

theorem OwnsM.kept {w w' : World} {b n : Nat} {D : DataW Unit} (h : OwnsM w b n D) (e : w'.heap[b]? = w.heap[b]?) : OwnsM w' b n D := by
  obtain ⟨es, clock, hb, r⟩ := h
  exact ⟨es, clock, e.trans hb, r⟩
theorem OwnsM.lt {w : World} {b n : Nat} {D : DataW Unit} (h : OwnsM w b n D) : b < w.heap.size := World.ownsMap.lt h

theorem MirV.kept {w w' : World} {v : Option Nat} {n : Nat} {D : DataW Unit} (h : MirV w v n D) (e : ∀ b, v = some b → w'.heap[b]? = w.heap[b]?) : MirV w' v n D := by
  cases v with
  | none => exact h
  | some b => exact OwnsM.kept h (e b rfl)

/-- the mirror that stands at a, its map in v. -/
structure Mir (w : World) (a : Addr) (v : Option Nat) (n : Nat) (D : DataW Unit) : Prop where
  cell : w.cell? a = some (.map v)
  free : w.frozen? a = false
  ne : ∀ b, v = some b → b ≠ a.block
  map : MirV w v n D

theorem Mir.lt {w : World} {a : Addr} {v : Option Nat} {n : Nat} {D : DataW Unit} (h : Mir w a v n D) : a.block < w.heap.size := cell_lt h.cell
theorem Mir.vlt {w : World} {a : Addr} {v : Option Nat} {n : Nat} {D : DataW Unit} (h : Mir w a v n D) : ∀ b, v = some b → b < w.heap.size := by
  intro b hb
  subst hb
  exact OwnsM.lt h.map

theorem Mir.kept {S : Nat → Prop} {w w' : World} {a : Addr} {v : Option Nat} {n : Nat} {D : DataW Unit} (h : Mir w a v n D) (k : Kp S w w') (ha : ¬ S a.block) (hv : ∀ b, v = some b → ¬ S b) : Mir w' a v n D :=
  ⟨(k.cell h.lt ha).trans h.cell, (k.frozen h.lt ha).trans h.free, h.ne, h.map.kept (fun b hb => k.block b (h.vlt b hb) (hv b hb))⟩
theorem Mir.below {w w' : World} {a : Addr} {v : Option Nat} {n : Nat} {D : DataW Unit} (h : Mir w a v n D) (k : Below w.heap.size w w') : Mir w' a v n D :=
  h.kept (S := fun _ => False) (Kp.of_below k) (fun h => h) (fun _ _ h => h)

/-- which blocks a call of Put may write. -/
def PutS (a : Addr) (v : Option Nat) (k : Nat) : Prop := k = a.block ∨ v = some k

def PutE (n : Int) (w : World) (e : Ending) (w' : World) : Prop := e = .returned (.int .i64 n) ∧ Below w.heap.size w w'
def PutOk (a : Addr) (v : Option Nat) (n : Nat) (D : DataW Unit) (w : World) (e : Ending) (w' : World) : Prop :=
  e = .returned (.int .i64 0) ∧ ∃ v', Mir w' a v' n D ∧ (v' = v ∨ ∃ b, v' = some b ∧ w.heap.size ≤ b) ∧ Kp (PutS a v) w w'

theorem put_nil (p t : ByteArray) (w : World) :
    Calls Try.prog 7 #[.pointer none, .string p, .string t] w (PutE 1 w) := by
  go_enter Try.func7, Try.ntmps7
  go_wp2
  go_ret
  exact ⟨rfl, Below.refl _ _⟩

theorem put_empty (a : Addr) (t : ByteArray) (w : World) :
    Calls Try.prog 7 #[.pointer (some a), .string ⟨#[]⟩, .string t] w (PutE 1 w) := by
  go_enter Try.func7, Try.ntmps7
  go_wp2
  go_ret
  exact ⟨rfl, Below.refl _ _⟩

theorem put_path (a : Addr) (p t : ByteArray) (w : World) (hp : 64 < p.size) :
    Calls Try.prog 7 #[.pointer (some a), .string p, .string t] w (PutE 1 w) := by
  have h0 : p.toList.isEmpty = false := by rw [toList_empty]; exact decide_eq_false (by omega)
  have h1 : (64 : Int) < (p.size : Int) := by omega
  go_enter Try.func7, Try.ntmps7
  go_wp2
  all_goals (go_ret; exact ⟨rfl, Below.refl _ _⟩)

theorem put_long (a : Addr) (p t : ByteArray) (w : World) (hp0 : 0 < p.size) (hp : p.size ≤ 64) (ht : 65535 < t.size) :
    Calls Try.prog 7 #[.pointer (some a), .string p, .string t] w (PutE 4 w) := by
  have h0 : p.toList.isEmpty = false := by rw [toList_empty]; exact decide_eq_false (by omega)
  have h1 : ¬ (64 : Int) < (p.size : Int) := by omega
  have h2 : (65535 : Int) < (t.size : Int) := by omega
  go_enter Try.func7, Try.ntmps7
  go_wp2
  all_goals (go_ret; exact ⟨rfl, Below.refl _ _⟩)

set_option maxRecDepth 100000 in
theorem put_full (a : Addr) (b n : Nat) (D : DataW Unit) (p t : ByteArray) (w : World) (hp0 : 0 < p.size) (hp : p.size ≤ 64) (ht : t.size ≤ 65535) (hc : w.cell? a = some (.map (some b))) (hm : OwnsM w b n D)
    (hg : mget D p = none) (hfull : 256 ≤ Maps.size D) :
    Calls Try.prog 7 #[.pointer (some a), .string p, .string t] w (PutE 6 w) := by
  have h0 : p.toList.isEmpty = false := by rw [toList_empty]; exact decide_eq_false (by omega)
  have h1 : ¬ (64 : Int) < (p.size : Int) := by omega
  have h2 : ¬ (65535 : Int) < (t.size : Int) := by omega
  have hrun := look_file w (some b) n D p (by unfold maxLen; omega) hm
  rw [hg] at hrun
  have hlen := fun (o : Obj) => World.ownsMap.len (World.ownsMap.alloc hm o) Try.underlying24 3
  have h3 : (256 : Int) ≤ (Maps.size D : Int) := by omega
  have hc1 := fun o => cell_alloc hc o
  clear hg
  have Hm := Lib.hid hm
  clear hm
  go_enter Try.func7, Try.ntmps7
  go_wp2
  all_goals (go_ret; exact ⟨rfl, (Below.refl _ _).alloc (Nat.le_refl _) _⟩)

/-- behind the store into a map that was there. -/
theorem put_done {a : Addr} {b n m : Nat} {D D' : DataW Unit} {w w1 : World} {o : Obj} (hM : Mir w a (some b) n D) (hown1 : w1.ownsMap Try.prog 9 fileR b m D') (hg : (w.alloc o).grownBy w1 (some b)) :
    PutOk a (some b) m D' w (.returned (.int .i64 0)) w1 := by
  have hne := hM.ne b rfl
  have hk : Kp (fun k => some b = some k) w w1 := (Kp.refl _ _).alloc o |>.grown hg (fun k hk => .inl hk)
  refine ⟨rfl, some b, ⟨(hk.cell hM.lt (fun e => hne (by injection e))).trans hM.cell, (hk.frozen hM.lt (fun e => hne (by injection e))).trans hM.free, hM.ne, hown1⟩, .inl rfl, hk.mono (fun k hk => .inr hk)⟩

/-- there already. -/
theorem put_again (a : Addr) (b n : Nat) (D : DataW Unit) (p t s : ByteArray) (w : World) (hp0 : 0 < p.size) (hp : p.size ≤ 64) (ht : t.size ≤ 65535) (hM : Mir w a (some b) n D)
    (hg : mget D p = some s) (hn : n < maxLen) :
    Calls Try.prog 7 #[.pointer (some a), .string p, .string t] w (PutOk a (some b) (n + 1) (D.put (kS p) (dS t)) w) := by
  have h0 : p.toList.isEmpty = false := by rw [toList_empty]; exact decide_eq_false (by omega)
  have h1 : ¬ (64 : Int) < (p.size : Int) := by omega
  have h2 : ¬ (65535 : Int) < (t.size : Int) := by omega
  have hp' : p.size ≤ maxLen := by unfold maxLen; omega
  have hrun := look_file w (some b) n D p hp' hM.map
  rw [hg] at hrun
  have hc := hM.cell
  have hc1 := fun o => cell_alloc hc o
  have hnil := fun W => run_eql_map_nil (P := Try.prog) W 24 9 64 (some b) Try.underlying24
  have HM := Lib.hid hM
  have Hk := Lib.hid (key_mk hp')
  have Hn := Lib.hid hn
  clear hg hM hn
  go_enter Try.func7, Try.ntmps7
  go_wp2_with (first
    | (at_mapUpdate; refine wpList_mapUpdate_own _ rfl _ _ _ 24 rfl 9 64 keyedS Try.underlying24 fileR b n D rfl (World.ownsMap.alloc HM.out.map _) Hn.out _ _ _ rfl rfl Hk.out _ [] (fileR_mk t) ?_; intro w1 hown1 hgrow1)
    | go_in)
  all_goals (go_ret; exact put_done HM.out hown1 hgrow1)

/-- a new one. -/
theorem put_more (a : Addr) (b n : Nat) (D : DataW Unit) (p t : ByteArray) (w : World) (hp0 : 0 < p.size) (hp : p.size ≤ 64) (ht : t.size ≤ 65535) (hM : Mir w a (some b) n D)
    (hg : mget D p = none) (hn : n < maxLen) (hroom : Maps.size D < 256) :
    Calls Try.prog 7 #[.pointer (some a), .string p, .string t] w (PutOk a (some b) (n + 1) (D.put (kS p) (dS t)) w) := by
  have h0 : p.toList.isEmpty = false := by rw [toList_empty]; exact decide_eq_false (by omega)
  have h1 : ¬ (64 : Int) < (p.size : Int) := by omega
  have h2 : ¬ (65535 : Int) < (t.size : Int) := by omega
  have hp' : p.size ≤ maxLen := by unfold maxLen; omega
  have hrun := look_file w (some b) n D p hp' hM.map
  rw [hg] at hrun
  have hc := hM.cell
  have hc1 := fun o => cell_alloc hc o
  have hnil := fun W => run_eql_map_nil (P := Try.prog) W 24 9 64 (some b) Try.underlying24
  have hlen := fun (o : Obj) => World.ownsMap.len (World.ownsMap.alloc hM.map o) Try.underlying24 3
  have h3 : ¬ (256 : Int) ≤ (Maps.size D : Int) := by omega
  have HM := Lib.hid hM
  have Hk := Lib.hid (key_mk hp')
  have Hn := Lib.hid hn
  clear hg hM hn
  go_enter Try.func7, Try.ntmps7
  go_wp2_with (first
    | (at_mapUpdate; refine wpList_mapUpdate_own _ rfl _ _ _ 24 rfl 9 64 keyedS Try.underlying24 fileR b n D rfl (World.ownsMap.alloc HM.out.map _) Hn.out _ _ _ rfl rfl Hk.out _ [] (fileR_mk t) ?_; intro w1 hown1 hgrow1)
    | go_in)
  all_goals (go_ret; exact put_done HM.out hown1 hgrow1)

theorem made_own (w : World) (a : Addr) (o : Obj) (v : Value) (ha : a.block < w.heap.size) : (((w.alloc o).alloc (.map #[] 0)).setCell a v).ownsMap Try.prog 9 fileR (w.heap.size + 1) 0 (.map []) := by
  have h := World.ownsMap_made (w.alloc o) Try.prog 9 fileR
  have e : (w.alloc o).heap.size = w.heap.size + 1 := by simp
  rw [e] at h
  exact h.setCell (by omega) v

theorem put_done_first {a : Addr} {n m : Nat} {D' : DataW Unit} {w w1 : World} {o o' : Obj} (hM : Mir w a none n (.map [])) (hown1 : w1.ownsMap Try.prog 9 fileR (w.heap.size + 1) m D')
    (hg : (((w.alloc o).alloc o').setCell a (.map (some (w.heap.size + 1)))).grownBy w1 (some (w.heap.size + 1))) :
    PutOk a none m D' w (.returned (.int .i64 0)) w1 := by
  have hlt := hM.lt
  have hk : Kp (fun k => k = a.block) w (((w.alloc o).alloc o').setCell a (.map (some (w.heap.size + 1)))) := Kp.setCell (S := fun k => k = a.block) (((Kp.refl _ _).alloc o).alloc o') (.inl rfl) _
  have hk1 := hk.grown hg (fun k hk => .inr (by injection hk with hk; omega))
  have e2 : ((w.alloc o).alloc o').heap.size = w.heap.size + 2 := by simp
  have hcell : (((w.alloc o).alloc o').setCell a (.map (some (w.heap.size + 1)))).cell? a = some (.map (some (w.heap.size + 1))) := World.cell?_setCell_same _ _ _ (cell_alloc (cell_alloc hM.cell o) o')
  have hfree : (((w.alloc o).alloc o').setCell a (.map (some (w.heap.size + 1)))).frozen? a = false := by
    rw [World.frozen?_setCell]
    exact free_alloc (cell_alloc hM.cell o) (free_alloc hM.cell hM.free o) o'
  have hb : w1.heap[a.block]? = (((w.alloc o).alloc o').setCell a (.map (some (w.heap.size + 1)))).heap[a.block]? := hg.block a.block (cell_lt hcell) (fun e => by injection e with e; omega)
  refine ⟨rfl, some (w.heap.size + 1), ⟨(World.cell?_of_block hb).trans hcell, (World.frozen?_of_block hb).trans hfree, fun b hb => ?_, hown1⟩, .inr ⟨_, rfl, by omega⟩, hk1.mono (fun k hk => .inl hk)⟩
  injection hb with hb
  omega

/- the first one of all. -/
set_option maxRecDepth 100000 in
theorem put_first (a : Addr) (n : Nat) (p t : ByteArray) (w : World) (hp0 : 0 < p.size) (hp : p.size ≤ 64) (ht : t.size ≤ 65535) (hM : Mir w a none n (.map [])) :
    Calls Try.prog 7 #[.pointer (some a), .string p, .string t] w (PutOk a none 1 ((DataW.map []).put (kS p) (dS t)) w) := by
  have h0 : p.toList.isEmpty = false := by rw [toList_empty]; exact decide_eq_false (by omega)
  have h1 : ¬ (64 : Int) < (p.size : Int) := by omega
  have h2 : ¬ (65535 : Int) < (t.size : Int) := by omega
  have hp' : p.size ≤ maxLen := by unfold maxLen; omega
  have hrun := look_file w none n (.map []) p hp' hM.map
  have hnone : mget (.map []) p = none := rfl
  rw [hnone] at hrun
  have hc := hM.cell
  have hc1 := fun o => cell_alloc hc o
  have hnil := fun W => run_eql_map_nil (P := Try.prog) W 24 9 64 none Try.underlying24
  have hc2 := fun o o' => cell_alloc (cell_alloc hc o) o'
  have hf2 := fun o o' => free_alloc (cell_alloc hc o) (free_alloc hc hM.free o) o'
  have hlen := fun (W : World) => Maps.len_nil (P := Try.prog) (w := W) Try.underlying24 3
  have hmm := @run_makeMap Try.prog
  have HM := Lib.hid hM
  have Hk := Lib.hid (key_mk hp')
  clear hnone hM
  go_enter Try.func7, Try.ntmps7
  go_wp2_with (first
    | (at_mapUpdate; refine wpList_mapUpdate_own _ rfl _ _ _ 24 rfl 9 64 keyedS Try.underlying24 fileR (w.heap.size + 1) 0 (.map []) rfl (made_own _ _ _ _ HM.out.lt) (by decide) _ _ _ rfl rfl Hk.out _ [] (fileR_mk t) ?_; intro w1 hown1 hgrow1)
    | go_in)
  all_goals (go_ret; exact put_done_first HM.out hown1 hgrow1)

end Go.Proofs.Ytobepddifflpdaa
