import Derived.Test.YtobepddifflpdaaDoorTlH
import Derived.Test.YtobepddifflpdaaDoorTlR
import Derived.Lib.LaidTab
import Derived.Lib.AppendIntMem
set_option linter.unusedVariables false
namespace Go.Proofs.YtobepddifflpdaaDoor
open Go Go.RowKit Go.Lib Go.Sort

/-! the package-level tables -/
def nG : Nat := max 2 1 + 1
theorem gPow : Tryd.prog.globalNamed "internal/strconv.uint64pow10" = some 2 := by kernel_rfl
theorem gBru : Tryd.prog.globalNamed "math/bits.deBruijn64tab" = some 1 := by kernel_rfl
theorem gPowLt : 2 < nG := by decide
theorem gBruLt : 1 < nG := by decide
def bruTab : List Int := [0, 1, 56, 2, 57, 49, 28, 3, 61, 58, 42, 50, 38, 29, 17, 4, 62, 47, 59, 36, 45, 43, 51, 22, 53, 39, 33, 30, 24, 18, 12, 5, 63, 55, 48, 27, 60, 41, 37, 16, 46, 35, 44, 21, 52, 32, 23, 11, 54, 26, 40, 15, 34, 20, 31, 10, 25, 14, 19, 9, 13, 8, 7, 6]
structure Tabs (w : World) : Prop where
  size : nG ≤ w.heap.size
  pow : Lib.TabIs Tryd.prog w "internal/strconv.uint64pow10" .u64 Lib.pow10Tab
  bru : Lib.TabIs Tryd.prog w "math/bits.deBruijn64tab" .u8 bruTab
theorem tab_kept {w w' : World} {name : String} {k : IntKind} {zs : List Int} {g : Nat} (hg : Tryd.prog.globalNamed name = some g) (h : Lib.TabIs Tryd.prog w name k zs) (hb : w'.heap[g]? = w.heap[g]?) : Lib.TabIs Tryd.prog w' name k zs := by
  unfold Lib.TabIs World.var? at h ⊢
  rw [hg] at h ⊢
  simp only [Option.bind_some] at h ⊢
  rw [hb]
  exact h
theorem Tabs.gk {w w' : World} (h : Tabs w) (hs : w.heap.size ≤ w'.heap.size) (hb : ∀ k, k < nG → w'.heap[k]? = w.heap[k]?) : Tabs w' :=
  ⟨Nat.le_trans h.size hs, tab_kept gPow h.pow (hb _ gPowLt), tab_kept gBru h.bru (hb _ gBruLt)⟩
theorem Tabs.kp {S : Nat → Prop} {w w' : World} (h : Tabs w) (k : Kp S w w') (hS : ∀ i, S i → nG ≤ i) : Tabs w' :=
  h.gk k.size fun i hi => k.block i (Nat.lt_of_lt_of_le hi h.size) fun hs => by have := hS i hs; omega
theorem Tabs.below {w w' : World} (h : Tabs w) (k : Below w.heap.size w w') : Tabs w' := h.kp (S := fun _ => False) (Kp.of_below k) fun _ h => h.elim
theorem Tabs.itoa {w : World} (h : Tabs w) (n : Int) (h0 : 0 ≤ n) (h1 : n ≤ 1099511627776) : ItoaOk n w := fun w' hb =>
  (Tryd.strconv_Itoa n (by omega) (by omega) w' (h.below hb).pow).mono fun e w'' h => by
    obtain ⟨rfl, k, os, rfl⟩ := h
    exact ⟨rfl, Lib.below_grow _ w' (Nat.le_refl _) k os⟩
theorem Tabs.alloc {w : World} (h : Tabs w) (o : Obj) : Tabs (w.alloc o) := h.below ((Below.refl _ _).alloc (Nat.le_refl _) _)

theorem OwnL.ne_blk {α : Type} {e : TypeId} {size : Nat} {mk : α → List Value} {w : World} {base : Nat} {v : Value} {l : List α} (h : OwnL e size mk w base v l) {b : Nat} {cs : Array Value} {T : TypeId} {f : Nat × Nat} (hb : w.heap[b]? = some (.cells cs T f)) (hT : T ≠ e) : v.ownBlock ≠ some b := by
  intro hg
  rcases h.2 with ⟨h2, _⟩ | ⟨g, cap, cur, hv, _, hh, _⟩
  · rw [h2] at hg; cases hg
  · rw [hv] at hg
    obtain rfl : g = b := Option.some.inj hg
    rw [hh] at hb
    injection hb with hb
    injection hb with _ hb2 _
    exact hT hb2.symm

theorem HashS.kp {S : Nat → Prop} {w w' : World} {v : Value} {n : Nat} {ps : Nat → ByteArray} (h : HashS w v n ps) (k : Kp S w w') (hS : ∀ g, v.ownBlock = some g → ¬ S g) : HashS w' v n ps := by
  obtain ⟨ao, cap, rfl, h1, h2, h3, h4⟩ := h
  refine ⟨ao, cap, rfl, h1, h2, h3, fun h0 => ?_⟩
  obtain ⟨pb, rfl, hc⟩ := h4 h0
  exact ⟨pb, rfl, fun j hj => (k.cell (cell_lt (hc j hj)) (hS pb rfl)).trans (hc j hj)⟩
theorem HashS.below {w w' : World} {v : Value} {n : Nat} {ps : Nat → ByteArray} (h : HashS w v n ps) (k : Below w.heap.size w w') : HashS w' v n ps := h.kp (S := fun _ => False) (Kp.of_below k) fun _ _ h => h

/-! the law's source of files -/
structure FilesAt (w : World) (fb : Nat) (hv : Value) (n : Nat) (ps : Nat → ByteArray) (gone long : ByteArray) (av : Value) (asked : List ByteArray) : Prop where
  blk : w.heap[fb]? = some (.cells #[hv, .string gone, .string long, av] 42 (0, 0))
  hs : HashS w hv n ps
  own : OwnS w nG av asked
  dis : ∀ g, av.ownBlock = some g → hv.ownBlock ≠ some g
  hlt : ∀ g, hv.ownBlock = some g → g < w.heap.size ∧ g ≠ fb
  fb : nG ≤ fb

theorem FilesAt.kp {S : Nat → Prop} {w w' : World} {fb : Nat} {hv : Value} {n : Nat} {ps : Nat → ByteArray} {gone long : ByteArray} {av : Value} {asked : List ByteArray} (h : FilesAt w fb hv n ps gone long av asked) (k : Kp S w w')
    (h1 : ¬ S fb) (h2 : ∀ g, hv.ownBlock = some g → ¬ S g) (h3 : ∀ g, av.ownBlock = some g → ¬ S g) : FilesAt w' fb hv n ps gone long av asked :=
  ⟨blk_kp h.blk k h1, h.hs.kp k h2, OwnL.kp h.own k h3, h.dis, fun g hg => ⟨Nat.lt_of_lt_of_le (h.hlt g hg).1 k.size, (h.hlt g hg).2⟩, h.fb⟩
theorem FilesAt.below {w w' : World} {fb : Nat} {hv : Value} {n : Nat} {ps : Nat → ByteArray} {gone long : ByteArray} {av : Value} {asked : List ByteArray} (h : FilesAt w fb hv n ps gone long av asked) (k : Below w.heap.size w w') : FilesAt w' fb hv n ps gone long av asked :=
  h.kp (S := fun _ => False) (Kp.of_below k) (fun h => h) (fun _ _ h => h) (fun _ _ h => h)

def ansF (n : Nat) (ps : Nat → ByteArray) (gone long p : ByteArray) : ByteArray × Int :=
  if p = gone then (⟨#[]⟩, 15) else match parseT p with
    | none => (⟨#[]⟩, 3)
    | some t => if p = long then ((makeR n ps t.1 t.2.1 t.2.2).1 ++ ⟨#[120]⟩, (makeR n ps t.1 t.2.1 t.2.2).2) else makeR n ps t.1 t.2.1 t.2.2

theorem makeR_le (n : Nat) (ps : Nat → ByteArray) (l i x : Int) {w : World} {v : Value} (h : HashS w v n ps) : (makeR n ps l i x).1.size ≤ 100000000000 := by
  unfold makeR
  by_cases hf : fitT l i x = true
  · rw [if_pos hf]
    split
    · exact Nat.zero_le _
    · obtain ⟨ao, cap, rfl, h1, h2, h3, h4⟩ := h
      exact makeT_le ps _ _ _ (fun i => by rw [h3]; omega) (by have := fit_all hf; omega)
  · rw [if_neg hf]
    exact Nat.zero_le _

/-- which blocks a call of File may write. -/
def FileS (fb : Nat) (av : Value) (k : Nat) : Prop := k = fb ∨ av.ownBlock = some k
def FilePost (fb : Nat) (hv : Value) (n : Nat) (ps : Nat → ByteArray) (gone long : ByteArray) (av : Value) (asked : List ByteArray) (p : ByteArray) (w : World) (e : Ending) (w' : World) : Prop :=
  e = .returned (.tuple #[.string (ansF n ps gone long p).1, .int .i64 (ansF n ps gone long p).2]) ∧
    ∃ av', FilesAt w' fb hv n ps gone long av' (asked ++ [p]) ∧ (av'.ownBlock = av.ownBlock ∨ ∃ b, av'.ownBlock = some b ∧ w.heap.size ≤ b) ∧ Kp (FileS fb av) w w'

set_option maxRecDepth 100000 in
set_option maxHeartbeats 1000000 in
theorem file_any (fb : Nat) (hv : Value) (n : Nat) (ps : Nat → ByteArray) (gone long : ByteArray) (av : Value) (asked : List ByteArray) (p : ByteArray) (w : World) (hF : FilesAt w fb hv n ps gone long av asked) (hT : Tabs w)
    (hn : n ≤ 1000) (hp : p.size ≤ 1000000) (hl : asked.length ≤ 900000000) :
    Calls Tryd.prog 160 #[.pointer (some ⟨fb, 0, none⟩), .string p] w (FilePost fb hv n ps gone long av asked p w) := by
  obtain ⟨i0, hi, hz0, hz1, hz2⟩ := info_parts infoStr
  have HI2 := Lib.hid hz2
  clear hz2
  have HF := Lib.hid hF
  have HT := Lib.hid hT
  have c3 : w.cell? ⟨fb, 3, none⟩ = some av := cell_of_blk hF.blk 3 rfl
  clear hF hT
  go_enter Tryd.func160, Tryd.ntmps160
  go_wp2_with (first | (at_builtin; refine wpList_appL _ rfl _ _ 29 rfl i0 (.string ⟨#[]⟩) 16 Tryd.underlying29 hi hz0 hz1 HI2.out rfl (by decide) nG _ asked rfl (HF.out.own.alloc _) p rfl ⟨w.heap.size, 0, none⟩ 1 rfl (one_str w _ _) ?_ ?_ (by decide) ?_ ?_) | fail)
  · intro u hu; simp at hu; subst hu; rfl
  · omega
  · rw [size_alloc]; have := HT.out.size; omega
  intro v3 w3 ho3 hg3 hblk
  obtain ⟨ao3, n3, cap3, rfl⟩ : ∃ ao n c, v3 = .slice ao n c := by obtain ⟨ao, c, h, -⟩ := ho3.form; exact ⟨ao, _, c, h⟩
  have hfo : av.ownBlock ≠ some fb := HF.out.own.ne_blk HF.out.blk (by decide)
  have hflt : fb < w.heap.size := (Array.getElem?_eq_some_iff.1 HF.out.blk).1
  have hb3 : w3.heap[fb]? = some (.cells #[hv, .string gone, .string long, av] 42 (0, 0)) := (hg3.block fb (by rw [size_alloc]; omega) (fun e => hfo e.symm)).trans (blk_alloc HF.out.blk _)
  have k3 : Kp (FileS fb av) w w3 := ((Kp.refl _ _).alloc _).grown hg3 (fun k hk => .inl (.inr hk))
  have d3 : w3.cell? ⟨fb, 3, none⟩ = some av := cell_of_blk hb3 3 rfl
  have f3 := free_of_blk hb3 3
  have hvd : ∀ g, hv.ownBlock = some g → ¬ FileS fb av g ∧ g < w.heap.size := by
    intro g hg
    obtain ⟨h1, h2⟩ := HF.out.hlt g hg
    exact ⟨fun h => h.elim h2 (fun h => HF.out.dis g h hg), h1⟩
  obtain ⟨w4, hw4⟩ : ∃ w4, w4 = w3.setCell ⟨fb, 3, none⟩ (.slice ao3 n3 cap3) := ⟨_, rfl⟩
  have k4 : Kp (FileS fb av) w w4 := by rw [hw4]; exact k3.setCell (p := ⟨fb, 3, none⟩) (.inl (.inl rfl)) _
  have hnew : (Value.slice ao3 n3 cap3).ownBlock = av.ownBlock ∨ ∃ b, (Value.slice ao3 n3 cap3).ownBlock = some b ∧ w.heap.size ≤ b := hblk.imp (fun h => h) fun h => ⟨_, h, by omega⟩
  have F4 : FilesAt w4 fb hv n ps gone long (.slice ao3 n3 cap3) (asked ++ [p]) := by
    refine ⟨by rw [hw4]; exact blk_set hb3 _, HF.out.hs.kp k4 (fun g hg => (hvd g hg).1), ?_, ?_, fun g hg => ⟨Nat.lt_of_lt_of_le (HF.out.hlt g hg).1 k4.size, (HF.out.hlt g hg).2⟩, HF.out.fb⟩
    · rw [hw4]
      refine OwnL.of_block ho3 fun g hg => Below.heap_setCell _ _ _ _ fun e => ?_
      rw [e] at hg
      exact ho3.ne_blk hb3 (by decide) hg
    · intro g hg hh
      have := hvd g hh
      rcases hnew with h | ⟨b, h, h2⟩
      · exact this.1 (.inr (h ▸ hg))
      · rw [h] at hg
        obtain rfl := Option.some.inj hg
        omega
  have T4 : Tabs w4 := HT.out.kp k4 fun k hk => by
    rcases hk with rfl | hk
    · exact HF.out.fb
    · exact (HF.out.own.lt k hk).1
  have HF4 := Lib.hid F4
  have HK4 := Lib.hid k4
  have HN := Lib.hid hnew
  have HT4 := Lib.hid T4
  have HW4 := Lib.hid hw4
  have d0 : w3.cell? ⟨fb, 0, none⟩ = some hv := cell_of_blk hb3 0 rfl
  have d1 : w3.cell? ⟨fb, 1, none⟩ = some (.string gone) := cell_of_blk hb3 1 rfl
  have d2 : w3.cell? ⟨fb, 2, none⟩ = some (.string long) := cell_of_blk hb3 2 rfl
  clear ho3 hg3 hblk k3 k4 F4 hnew c3 hvd T4 hw4 hb3
  by_cases hgone : p = gone
  · have hq : (p.toList == gone.toList) = true := by rw [toList_eq_iff]; exact decide_eq_true hgone
    have HG := Lib.hid hgone
    clear hgone
    go_wp2_with fail
    rw [← HW4.out]
    go_ret2
    refine ⟨by unfold ansF; rw [if_pos HG.out]; rfl, _, HF4.out, HN.out, HK4.out⟩
  · have hq : (p.toList == gone.toList) = false := by rw [toList_eq_iff]; exact decide_eq_false hgone
    have HG := Lib.hid hgone
    clear hgone
    go_wp2_with fail
    rw [← HW4.out]
    clear d0 d1 d2 d3 f3 HW4 hq
    refine (refparse_any p w4 (by omega) HT4.out.itoa).mono ?_
    rintro e w5 ⟨rfl, hb5⟩
    have HF5 := Lib.hid (HF4.out.below hb5)
    have HT5 := Lib.hid (HT4.out.below hb5)
    have HK5 := Lib.hid (HK4.out.below hb5)
    clear hb5
    have hv : parseV p = match parseT p with
      | some t => .tuple #[.agg #[.int .i64 t.1, .int .i64 t.2.1, .int .i64 t.2.2], .int .i64 0]
      | none => .tuple #[.agg #[.int .i64 0, .int .i64 0, .int .i64 0], .int .i64 3] := rfl
    rw [hv]
    clear hv
    cases hpt : parseT p with
    | none =>
      have HP := Lib.hid hpt
      clear hpt
      go_wp2_with fail
      go_ret2
      have hF6 := HF5.out.below ((Below.refl _ _).alloc (Nat.le_refl _) (.cells #[.int .i64 0, .int .i64 0, .int .i64 0] 28))
      exact ⟨by unfold ansF; rw [if_neg HG.out, HP.out]; rfl, _, hF6, HN.out, HK5.out.alloc _⟩
    | some t =>
      obtain ⟨l, i, x⟩ := t
      have HP := Lib.hid hpt
      clear hpt
      go_wp2_with fail
      have hb6 : Below w5.heap.size w5 (w5.alloc (.cells #[.int .i64 l, .int .i64 i, .int .i64 x] 28)) := (Below.refl _ _).alloc (Nat.le_refl _) _
      have t0 : (w5.alloc (.cells #[.int .i64 l, .int .i64 i, .int .i64 x] 28)).cell? ⟨w5.heap.size, 0, none⟩ = some (.int .i64 l) := cell_of_blk (blk_new w5 _) 0 rfl
      have t1 : (w5.alloc (.cells #[.int .i64 l, .int .i64 i, .int .i64 x] 28)).cell? ⟨w5.heap.size, 1, none⟩ = some (.int .i64 i) := cell_of_blk (blk_new w5 _) 1 rfl
      have t2 : (w5.alloc (.cells #[.int .i64 l, .int .i64 i, .int .i64 x] 28)).cell? ⟨w5.heap.size, 2, none⟩ = some (.int .i64 x) := cell_of_blk (blk_new w5 _) 2 rfl
      generalize w5.alloc (.cells #[.int .i64 l, .int .i64 i, .int .i64 x] 28) = w6 at hb6 t0 t1 t2 ⊢
      have F6 := HF5.out.below hb6
      have HF6 := Lib.hid F6
      have HK6 := Lib.hid (HK5.out.below hb6)
      have c0 : w6.cell? ⟨fb, 0, none⟩ = some hv := cell_of_blk F6.blk 0 rfl
      have k0 := cell_regrown c0
      have l0 := cell_regrown t0
      have l1 := cell_regrown t1
      have l2 := cell_regrown t2
      have cM : ∀ d os, Calls Tryd.prog 14 #[hv, .agg #[.int .i64 l, .int .i64 i, .int .i64 x]] (grow (redrawn w6 d) os) fun e w'' => e = .returned (.tuple #[.string (makeR n ps l i x).1, .int .i64 (makeR n ps l i x).2]) ∧ ∃ p : Regrown, w'' = grow (redrawn w6 p.d) p.os :=
        fun d os => Calls.regrown_of (refmake_all hv n ps l i x _ hn (HF6.out.hs.below (below_regrown w6 d os)))
      have hms := makeR_le n ps l i x HF6.out.hs
      clear hb6 F6
      refine wp_region_quiet_below (by kernel_rfl) (by kernel_rfl) ?_
      repeat quiet_step (with_reducible exact cM _ _)
      refine wpQuiet_nil ?_
      intro w7 hw7
      obtain ⟨⟨dq, osq⟩, hw''⟩ := hw7
      have hb7 : Below w6.heap.size w6 w7 := by rw [hw'']; exact below_regrown w6 dq osq
      have F7 := HF6.out.below hb7
      have HF7 := Lib.hid F7
      have HK7 := Lib.hid (HK6.out.below hb7)
      have c2 : w7.cell? ⟨fb, 2, none⟩ = some (.string long) := cell_of_blk F7.blk 2 rfl
      have n1 : ¬ 9223372036854775807 < (makeR n ps l i x).1.size + 1 := by omega
      clear hw'' cM k0 l0 l1 l2 c0 t0 t1 t2 F7 hb7
      by_cases hlong : p = long
      · have hq : (p.toList == long.toList) = true := by rw [toList_eq_iff]; exact decide_eq_true hlong
        have HL := Lib.hid hlong
        clear hlong
        go_wp2_with fail
        go_ret2
        exact ⟨by unfold ansF; rw [if_neg HG.out, HP.out]; simp only; rw [if_pos HL.out]; rfl, _, HF7.out, HN.out, HK7.out⟩
      · have hq : (p.toList == long.toList) = false := by rw [toList_eq_iff]; exact decide_eq_false hlong
        have HL := Lib.hid hlong
        clear hlong
        go_wp2_with fail
        go_ret2
        exact ⟨by unfold ansF; rw [if_neg HG.out, HP.out]; simp only; rw [if_neg HL.out]; rfl, _, HF7.out, HN.out, HK7.out⟩
end Go.Proofs.YtobepddifflpdaaDoor
