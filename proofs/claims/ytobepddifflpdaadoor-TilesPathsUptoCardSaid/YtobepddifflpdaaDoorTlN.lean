import Derived.Test.YtobepddifflpdaaDoorTlM
set_option linter.unusedVariables false
namespace Go.Proofs.YtobepddifflpdaaDoor
open Go Go.RowKit Go.Lib Go.Sort Go.Maps Go.WideMaps

theorem iface_nil (T : TypeId) (x : Value) (w : World) : (binOp .eql 83 (.iface T x) .nilIface).run Tryd.prog w = .ok (.bool false) w := run_eql_held_nil w _ T x (by kernel_rfl)

/-- behind newReader. -/
def NewPost (Z : Src) (n : Nat) (w : World) (s : Z.σ) (en : Ending) (w' : World) : Prop :=
  ∃ rb kb, en = .returned (.tuple #[.pointer (some ⟨rb, 0, none⟩), .int .i64 0]) ∧ Rd Z rb kb n w' 0 s ∧ Below w.heap.size w w' ∧ w.heap.size ≤ rb ∧ w.heap.size ≤ kb

set_option maxRecDepth 100000 in
theorem newReader_any (Z : Src) (n : Nat) (w : World) (s : Z.σ) (hI : Z.I w s) (hT : Tabs w) (hn : n ≤ 1024) :
    Calls Tryd.prog 44 #[.iface Z.T Z.x, .int .i64 n] w (NewPost Z n w s) := by
  have hnil := iface_nil Z.T Z.x
  have HI := Lib.hid hI
  have HT := Lib.hid hT
  clear hI hT
  have hmm := @run_makeMap Tryd.prog
  go_enter Tryd.func44, Tryd.ntmps44
  go_wp2_with fail
  go_ret2
  have hb1 : Below w.heap.size w (w.alloc (.map #[] 0)) := (Below.refl _ _).alloc (Nat.le_refl _) _
  have hb2 : ∀ o, Below w.heap.size w ((w.alloc (.map #[] 0)).alloc o) := fun o => hb1.alloc hb1.size o
  have hsz := HT.out.size
  refine ⟨w.heap.size + 1, w.heap.size, by rfl, ⟨blk_new2 w _ _, Z.kp w _ s (fun _ => False) HI.out (Kp.of_below (hb2 _)) (fun _ _ h => h), ?_, ?_, by omega, by omega, ?_, HT.out.below (hb2 _), hn⟩, hb2 _, by omega, Nat.le_refl _⟩
  · intro h; have := Z.lt w s HI.out _ h; omega
  · intro h; have := Z.lt w s HI.out _ h; omega
  · refine ⟨0, .map [], ?_, Nat.zero_le _, fun l i x t _ _ _ h => by rw [kget_empty] at h; cases h⟩
    exact OwnsK.kept (w := w.alloc (.map #[] 0)) (World.ownsMap_made w Tryd.prog _ txtR) (Below.heap_alloc _ _ _ (by rw [size_alloc]; omega))

/-- what a call over a source leaves behind. -/
structure Out (Z : Src) (n c : Nat) (w : World) (s : Z.σ) (w' : World) (e' : Int) (s' : Z.σ) : Prop where
  src : Z.I w' s'
  kp : Kp (Z.S s) w w'
  tabs : Tabs w'
  rg : ∀ k, Z.R s' k → Z.R s k ∨ w.heap.size ≤ k
  sg : ∀ k, Z.S s' k → Z.S s k ∨ w.heap.size ≤ k
  ev : Ev Z n c 0 e' s s'
theorem Out.below {Z : Src} {n c : Nat} {w w1 w2 : World} {s s' : Z.σ} {e' : Int} (h : Out Z n c w s w1 e' s') (k : Below w1.heap.size w1 w2) : Out Z n c w s w2 e' s' :=
  ⟨Z.kp w1 w2 s' (fun _ => False) h.src (Kp.of_below k) (fun _ _ h => h), h.kp.below k, h.tabs.below k, h.rg, h.sg, h.ev⟩
theorem out_of_left {Z : Src} {rb kb n c : Nat} {w w1 w2 : World} {s s' : Z.σ} {e' : Int} (hb : Below w.heap.size w w1) (hr : w.heap.size ≤ rb) (hk : w.heap.size ≤ kb) (h : Left Z rb kb n c w1 0 s w2 e' s') : Out Z n c w s w2 e' s' := by
  have hsz := hb.size
  refine ⟨h.rd.src, (Kp.of_below hb).trans' h.kp (fun i hi => ?_), h.rd.tabs, fun k hk => (h.rg k hk).imp (fun h => h) (fun h => by omega), fun k hk => (h.sg k hk).imp (fun h => h) (fun h => by omega), h.ev⟩
  rcases hi with rfl | rfl | hi
  · exact .inr hr
  · exact .inr hk
  · exact .inl hi

def RootPost (Z : Src) (n : Nat) (V : ByteArray) (w : World) (s : Z.σ) (en : Ending) (w' : World) : Prop :=
  ∃ t e' s', en = .returned (.tuple #[.string t, .int .i64 e']) ∧ Out Z n (2 * n) w s w' e' s' ∧ (e' = 0 → t = V) ∧ (e' ≠ 0 → t = ⟨#[]⟩)

set_option maxRecDepth 100000 in
theorem troot_any (Z : Src) (n : Nat) (V : Nat → Nat → ByteArray) (hV : Vals Z n V) (w : World) (s : Z.σ) (hI : Z.I w s) (hT : Tabs w) (hn : n ≤ 1024) (hlog : (Z.log s).length ≤ 500000000) :
    Calls Tryd.prog 18 #[.iface Z.T Z.x, .int .i64 n] w (RootPost Z n (rootV V 0 n) w s) := by
  go_enter Tryd.func18, Tryd.ntmps18
  go_wp2_with fail
  refine (newReader_any Z n w s hI hT hn).mono ?_
  rintro en w1 ⟨rb, kb, rfl, hR, hb, hrb, hkb⟩
  have HR := Lib.hid hR
  have HB := Lib.hid hb
  clear hR hb hI hT
  go_wp2_with fail
  have h1 := rroot_any Z rb kb n V hV n 0 w1 0 s HR.out (cut_zero n) (by omega) (by omega)
  rw [Nat.zero_add] at h1
  refine h1.mono ?_
  rintro en w2 ⟨t, e', s', rfl, hL, hv, ht⟩
  have c2 : w2.cell? ⟨rb, 2, none⟩ = some (.int .i64 e') := cell_of_blk hL.rd.blk 2 rfl
  have HL := Lib.hid (out_of_left HB.out hrb hkb hL)
  have HV := Lib.hid hv
  clear hL hv h1
  by_cases he : e' = 0
  · subst he
    go_wp2_with fail
    go_ret2
    exact ⟨t, 0, s', rfl, HL.out, (fun _ => HV.out (by first | trivial | rfl)), fun h => absurd rfl h⟩
  · have c2d : w2.drew.cell? ⟨rb, 2, none⟩ = some (.int .i64 e') := c2
    go_wp2_with fail
    go_region
    all_goals
      go_wp2_with fail
      go_ret2
      exact ⟨⟨#[]⟩, e', s', rfl, HL.out.below (Below.refl _ _).drew, fun h => absurd h he, fun _ => rfl⟩
end Go.Proofs.YtobepddifflpdaaDoor
