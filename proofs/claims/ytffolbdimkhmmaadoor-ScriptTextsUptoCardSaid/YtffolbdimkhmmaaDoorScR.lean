import Derived.Test.YtffolbdimkhmmaaDoorScO
import Derived.Test.YtffolbdimkhmmaaDoorScD
import Derived.Test.YtffolbdimkhmmaaDoorScC
set_option linter.unusedVariables false
set_option linter.unusedSimpArgs false
namespace Go.Proofs.YtffolbdimkhmmaaDoor
open Go Go.RowKit Go.Lib

/-! ### a step that is being read -/
abbrev TS : TypeId := 58
abbrev TSt : TypeId := 35
def OwnI (w : World) (base : Nat) (v : Value) (l : List Int) : Prop := OwnL 3 1 (fun n : Int => [Value.int .i64 n]) w base v l
theorem infoInt : (Tryd.prog.info? 3).map (fun i => (i.zero, i.size, i.bytes)) = some (some (.int .i64 0), 1, 8) := by kernel_rfl
theorem one_int (w : World) (n : Int) (t : TypeId) : ∀ j u, ([Value.int .i64 n] : List Value)[j]? = some u → (w.alloc (.cells #[.int .i64 n] t)).cell? ((⟨w.heap.size, 0, none⟩ : Addr).add j) = some u := by
  intro j u hu
  cases j with
  | zero =>
    obtain rfl : Value.int .i64 n = u := by simpa using hu
    exact cell_of_blk (blk_new w _) 0 rfl
  | succ j => simp at hu
def saidC (s : StP) (kv : Value) (ln : Int) : Array Value := #[.int .i64 s.kind, .int .i64 s.a, .int .i64 s.b, .int .i64 s.n, .string s.text, kv, .int .i64 ln]
structure StB (w : World) (x : Nat) (s : StP) (kv : Value) (ln : Int) : Prop where
  blk : w.heap[x]? = some (.cells (saidC s kv ln) TS (0, 0))
  keep : OwnI w x kv s.keep
theorem OwnI.ne {w : World} {base : Nat} {v : Value} {l : List Int} (h : OwnI w base v l) {b : Nat} {cs : Array Value} {T : TypeId} {f : Nat × Nat} (hb : w.heap[b]? = some (.cells cs T f)) (hT : T ≠ 3) : v.ownBlock ≠ some b := by
  intro e
  rcases h.2 with ⟨h2, _⟩ | ⟨g, cap, cur, hv, _, hh, _⟩
  · rw [h2] at e; cases e
  · rw [hv] at e
    obtain rfl : g = b := Option.some.inj e
    rw [hb] at hh
    injection hh with hh
    injection hh with _ hh _
    exact hT hh
theorem StB.kp {S : Nat → Prop} {w w' : World} {x : Nat} {s : StP} {kv : Value} {ln : Int} (h : StB w x s kv ln) (k : Kp S w w') (hx : ¬ S x) (hv : ∀ g, kv.ownBlock = some g → ¬ S g) : StB w' x s kv ln :=
  ⟨blk_kp h.blk k hx, h.keep.kp k hv⟩
theorem StB.below {w w' : World} {x : Nat} {s : StP} {kv : Value} {ln : Int} (h : StB w x s kv ln) (k : Below w.heap.size w w') : StB w' x s kv ln :=
  ⟨blk_later h.blk k, h.keep.below k⟩
theorem StB.lt {w : World} {x : Nat} {s : StP} {kv : Value} {ln : Int} (h : StB w x s kv ln) : x < w.heap.size := (Array.getElem?_eq_some_iff.1 h.blk).1
theorem StB.cell {w : World} {x : Nat} {s : StP} {kv : Value} {ln : Int} (h : StB w x s kv ln) (i : Nat) {v : Value} (hv : (saidC s kv ln)[i]? = some v) : w.cell? ⟨x, i, none⟩ = some v := cell_of_blk h.blk i hv
theorem StB.free {w : World} {x : Nat} {s : StP} {kv : Value} {ln : Int} (h : StB w x s kv ln) (i : Nat) : w.frozen? ⟨x, i, none⟩ = false := free_of_blk h.blk i
def RdS (x : Nat) (kv : Value) (k : Nat) : Prop := k = x ∨ kv.ownBlock = some k
def RdPost (x : Nat) (s : StP) (kv : Value) (ln : Int) (c : UInt8) (wd : ByteArray) (W : World) (e : Ending) (W' : World) : Prop :=
  ∃ (s' : StP) (kv' : Value), e = .returned (.bool (putP c wd s).isSome) ∧ StB W' x s' kv' ln ∧ (∀ y, putP c wd s = some y → s' = y) ∧ Kp (RdS x kv) W W'
/-- a cell of the step is written. -/
theorem StB.set {w : World} {x : Nat} {s : StP} {kv : Value} {ln : Int} (h : StB w x s kv ln) (i : Nat) (v : Value) (s' : StP) (hc : (saidC s kv ln).setIfInBounds i v = saidC s' kv ln) (hk : s'.keep = s.keep) :
    StB (w.setCell ⟨x, i, none⟩ v) x s' kv ln ∧ Kp (RdS x kv) w (w.setCell ⟨x, i, none⟩ v) := by
  have k : Kp (fun k => k = x) w (w.setCell ⟨x, i, none⟩ v) := Kp.setCell (S := fun k => k = x) (Kp.refl _ w) (p := ⟨x, i, none⟩) (.inl rfl) v
  refine ⟨⟨by rw [← hc]; exact blk_set h.blk v, ?_⟩, k.mono fun k hk => .inl hk⟩
  rw [hk]
  exact h.keep.kp k fun g hg e => h.keep.ne h.blk (by decide) (by rw [hg, e])
theorem put_num (c : UInt8) (wd : ByteArray) (s : StP) (h : c ≠ 84) : (putP c wd s).isSome = (numP wd).isSome ∧ ∀ y, putP c wd s = some y → ∃ n, numP wd = some n ∧ y = setP c n s := by
  unfold putP
  rw [if_neg h]
  cases numP wd with
  | none => exact ⟨rfl, fun y hy => by cases hy⟩
  | some n => exact ⟨rfl, fun y hy => ⟨n, rfl, (Option.some.inj hy).symm⟩⟩

theorem at_A (x : Nat) (w : World) : Calls Tryd.prog 40 #[.pointer (some ⟨x, 0, none⟩)] w fun e w' => e = .returned (.pointer (some ⟨x, 1, none⟩)) ∧ w = w' := by
  go_enter Tryd.func40, Tryd.ntmps40
  go_wp2_with fail
  go_ret
  exact ⟨rfl, rfl⟩
set_option maxRecDepth 100000 in
set_option maxHeartbeats 1000000 in
theorem read_A (x a : Nat) (s : StP) (kv : Value) (ln : Int) (wd : ByteArray) (W : World) (hs : wd.size ≤ 281474976710656) (hV : VarsV W) (hB : StB W x s kv ln)
    (ha : W.heap[a]? = some (.cells #[.func (.func 40) #[] #[]] TG (0, 0))) :
    Calls Tryd.prog 60 #[.pointer (some ⟨x, 0, none⟩), .string wd, .pointer (some ⟨a, 0, none⟩)] W (RdPost x s kv ln 65 wd W) := by
  have HW := Lib.hid (whole_any wd W hs hV)
  have HB := Lib.hid hB
  have ca := cell_of_blk ha 0 (v := .func (.func 40) #[] #[]) rfl
  clear hB hV ha
  go_enter Tryd.func60, Tryd.ntmps60
  go_wp2_with fail
  refine (at_A x W).mono ?_
  rintro e w1 ⟨rfl, rfl⟩
  go_wp2_with fail
  refine HW.out.mono ?_
  rintro e w2 ⟨n, rfl, hn, h0, h1, hb⟩
  have hB2 := HB.out.below hb
  have c1 := hB2.cell 1 (v := .int .i64 s.a) rfl
  have f1 := hB2.free 1
  have HB2 := Lib.hid hB2
  have HBl := Lib.hid hb
  have HN := Lib.hid hn
  clear hB2 hb hn ca
  go_wp2_with fail
  go_ret
  obtain ⟨p1, p2⟩ := put_num 65 wd s (by decide)
  obtain ⟨q1, q2⟩ := HB2.out.set 1 (.int .i64 n) { s with a := n } rfl rfl
  refine ⟨{ s with a := n }, kv, by rw [p1]; rfl, q1, fun y hy => ?_, (Kp.of_below HBl.out).trans q2⟩
  obtain ⟨m, hm, rfl⟩ := p2 y hy
  rw [HN.out m hm]
  rfl

theorem at_B (x : Nat) (w : World) : Calls Tryd.prog 41 #[.pointer (some ⟨x, 0, none⟩)] w fun e w' => e = .returned (.pointer (some ⟨x, 2, none⟩)) ∧ w = w' := by
  go_enter Tryd.func41, Tryd.ntmps41
  go_wp2_with fail
  go_ret
  exact ⟨rfl, rfl⟩
set_option maxRecDepth 100000 in
set_option maxHeartbeats 1000000 in
theorem read_B (x a : Nat) (s : StP) (kv : Value) (ln : Int) (wd : ByteArray) (W : World) (hs : wd.size ≤ 281474976710656) (hV : VarsV W) (hB : StB W x s kv ln)
    (ha : W.heap[a]? = some (.cells #[.func (.func 41) #[] #[]] TG (0, 0))) :
    Calls Tryd.prog 60 #[.pointer (some ⟨x, 0, none⟩), .string wd, .pointer (some ⟨a, 0, none⟩)] W (RdPost x s kv ln 66 wd W) := by
  have HW := Lib.hid (whole_any wd W hs hV)
  have HB := Lib.hid hB
  have ca := cell_of_blk ha 0 (v := .func (.func 41) #[] #[]) rfl
  clear hB hV ha
  go_enter Tryd.func60, Tryd.ntmps60
  go_wp2_with fail
  refine (at_B x W).mono ?_
  rintro e w1 ⟨rfl, rfl⟩
  go_wp2_with fail
  refine HW.out.mono ?_
  rintro e w2 ⟨n, rfl, hn, h0, h1, hb⟩
  have hB2 := HB.out.below hb
  have c1 := hB2.cell 2 (v := .int .i64 s.b) rfl
  have f1 := hB2.free 2
  have HB2 := Lib.hid hB2
  have HBl := Lib.hid hb
  have HN := Lib.hid hn
  clear hB2 hb hn ca
  go_wp2_with fail
  go_ret
  obtain ⟨p1, p2⟩ := put_num 66 wd s (by decide)
  obtain ⟨q1, q2⟩ := HB2.out.set 2 (.int .i64 n) { s with b := n } rfl rfl
  refine ⟨{ s with b := n }, kv, by rw [p1]; rfl, q1, fun y hy => ?_, (Kp.of_below HBl.out).trans q2⟩
  obtain ⟨m, hm, rfl⟩ := p2 y hy
  rw [HN.out m hm]
  rfl

theorem at_N (x : Nat) (w : World) : Calls Tryd.prog 42 #[.pointer (some ⟨x, 0, none⟩)] w fun e w' => e = .returned (.pointer (some ⟨x, 3, none⟩)) ∧ w = w' := by
  go_enter Tryd.func42, Tryd.ntmps42
  go_wp2_with fail
  go_ret
  exact ⟨rfl, rfl⟩
set_option maxRecDepth 100000 in
set_option maxHeartbeats 1000000 in
theorem read_N (x a : Nat) (s : StP) (kv : Value) (ln : Int) (wd : ByteArray) (W : World) (hs : wd.size ≤ 281474976710656) (hV : VarsV W) (hB : StB W x s kv ln)
    (ha : W.heap[a]? = some (.cells #[.func (.func 42) #[] #[]] TG (0, 0))) :
    Calls Tryd.prog 60 #[.pointer (some ⟨x, 0, none⟩), .string wd, .pointer (some ⟨a, 0, none⟩)] W (RdPost x s kv ln 78 wd W) := by
  have HW := Lib.hid (whole_any wd W hs hV)
  have HB := Lib.hid hB
  have ca := cell_of_blk ha 0 (v := .func (.func 42) #[] #[]) rfl
  clear hB hV ha
  go_enter Tryd.func60, Tryd.ntmps60
  go_wp2_with fail
  refine (at_N x W).mono ?_
  rintro e w1 ⟨rfl, rfl⟩
  go_wp2_with fail
  refine HW.out.mono ?_
  rintro e w2 ⟨n, rfl, hn, h0, h1, hb⟩
  have hB2 := HB.out.below hb
  have c1 := hB2.cell 3 (v := .int .i64 s.n) rfl
  have f1 := hB2.free 3
  have HB2 := Lib.hid hB2
  have HBl := Lib.hid hb
  have HN := Lib.hid hn
  clear hB2 hb hn ca
  go_wp2_with fail
  go_ret
  obtain ⟨p1, p2⟩ := put_num 78 wd s (by decide)
  obtain ⟨q1, q2⟩ := HB2.out.set 3 (.int .i64 n) { s with n := n } rfl rfl
  refine ⟨{ s with n := n }, kv, by rw [p1]; rfl, q1, fun y hy => ?_, (Kp.of_below HBl.out).trans q2⟩
  obtain ⟨m, hm, rfl⟩ := p2 y hy
  rw [HN.out m hm]
  rfl

set_option maxRecDepth 100000 in
set_option maxHeartbeats 1000000 in
theorem read_T (x : Nat) (s : StP) (kv : Value) (ln : Int) (wd : ByteArray) (W : World) (hs : wd.size ≤ 35184372088000) (hB : StB W x s kv ln) :
    Calls Tryd.prog 43 #[.pointer (some ⟨x, 0, none⟩), .string wd] W (RdPost x s kv ln 84 wd W) := by
  have hw := text_any wd W hs
  unfold TextPost at hw
  have hp := textP_V wd
  generalize textV wd = tv at hw hp
  obtain ⟨t, ok⟩ := tv
  have HW := Lib.hid hw
  have HB := Lib.hid hB
  have HP := Lib.hid hp
  clear hB hw hp
  go_enter Tryd.func43, Tryd.ntmps43
  go_wp2_with fail
  refine HW.out.mono ?_
  rintro e w2 ⟨rfl, hb⟩
  have hB2 := HB.out.below hb
  have c1 := hB2.cell 4 (v := .string s.text) rfl
  have f1 := hB2.free 4
  have HB2 := Lib.hid hB2
  have HBl := Lib.hid hb
  clear hB2 hb
  go_wp2_with fail
  go_ret
  obtain ⟨q1, q2⟩ := HB2.out.set 4 (.string t) { s with text := t } rfl rfl
  have e1 : putP 84 wd s = if ok = true then some { s with text := t } else none := by
    unfold putP
    rw [if_pos rfl, HP.out]
    cases ok <;> rfl
  refine ⟨{ s with text := t }, kv, by rw [e1]; cases ok <;> rfl, q1, fun y hy => ?_, (Kp.of_below HBl.out).trans q2⟩
  rw [e1] at hy
  cases ok with
  | false => cases hy
  | true => exact Option.some.inj hy
set_option maxRecDepth 100000 in
set_option maxHeartbeats 1000000 in
theorem read_K (x : Nat) (s : StP) (kv : Value) (ln : Int) (wd : ByteArray) (W : World) (hs : wd.size ≤ 281474976710656) (hV : VarsV W) (hB : StB W x s kv ln) (hlen : s.keep.length ≤ 100000000) :
    Calls Tryd.prog 47 #[.pointer (some ⟨x, 0, none⟩), .string wd] W (RdPost x s kv ln 75 wd W) := by
  have HW := Lib.hid (whole_any wd W hs hV)
  have HB := Lib.hid hB
  clear hB hV
  go_enter Tryd.func47, Tryd.ntmps47
  go_wp2_with fail
  refine HW.out.mono ?_
  rintro e w2 ⟨n, rfl, hn, h0, h1, hb⟩
  have hB2 := HB.out.below hb
  have c1 := hB2.cell 5 (v := kv) rfl
  have f1 := hB2.free 5
  have HB2 := Lib.hid hB2
  have HBl := Lib.hid hb
  have HN := Lib.hid hn
  clear hB2 hb hn
  obtain ⟨i0, hi, hz0, hz1, hz2⟩ := info_parts infoInt
  have HI2 := Lib.hid hz2
  clear hz2
  have hxl := HB2.out.lt
  go_wp2_with (first | (at_builtin; refine wpList_appL _ rfl _ _ 27 rfl i0 (.int .i64 0) 8 Tryd.underlying27 hi hz0 hz1 HI2.out rfl (by decide) x _ s.keep rfl (OwnL.alloc HB2.out.keep _) n rfl ⟨w2.heap.size, 0, none⟩ 1 rfl (one_int w2 _ _) ?_ ?_ (by decide) ?_ ?_) | fail)
  · first | rfl | (intro u hu; simp at hu; subst hu; rfl)
  · omega
  · first | omega | (rw [size_alloc]; omega)
  intro v' w3 ho3 hg3 hown3
  obtain ⟨ao, cap, hv3, -⟩ := OwnL.form ho3
  subst hv3
  rw [show (s.keep ++ [n]).length = s.keep.length + 1 by simp] at ho3
  have hne : kv.ownBlock ≠ some x := HB2.out.keep.ne HB2.out.blk (by decide)
  have hb3 : w3.heap[x]? = some (.cells (saidC s kv ln) TS (0, 0)) := (hg3.block x (by rw [size_alloc]; omega) (fun e => hne e.symm)).trans (blk_alloc HB2.out.blk _)
  have c3 := cell_of_blk hb3 5 (v := kv) rfl
  have f3 := free_of_blk hb3 5
  have HB3 := Lib.hid hb3
  have HO3 := Lib.hid ho3
  have hk3 : Kp (fun k => kv.ownBlock = some k) w2 w3 := ((Kp.refl _ w2).alloc _).grown hg3 (fun k hk => .inl hk)
  have HK3 := Lib.hid hk3
  clear hb3 ho3 hg3 hk3 hown3 c1 f1 hne
  go_wp2_with fail
  go_ret
  obtain ⟨p1, p2⟩ := put_num 75 wd s (by decide)
  have k4 : Kp (fun k => k = x) w3 (w3.setCell ⟨x, 5, none⟩ (.slice ao (s.keep.length + 1) cap)) := Kp.setCell (S := fun k => k = x) (Kp.refl _ w3) (p := ⟨x, 5, none⟩) (.inl rfl) _
  refine ⟨{ s with keep := s.keep ++ [n] }, .slice ao (s.keep.length + 1) cap, by rw [p1]; rfl, ⟨blk_set HB3.out _, HO3.out.kp k4 fun g hg e => ?_⟩, fun y hy => ?_, ((Kp.of_below HBl.out).trans (HK3.out.mono fun k hk => .inr hk)).trans (k4.mono (T := RdS x kv) fun k hk => .inl hk)⟩
  · exact OwnI.ne HO3.out HB3.out (by decide) (by rw [hg, e])
  · obtain ⟨m, hm, rfl⟩ := p2 y hy
    rw [HN.out m hm]
    rfl

/-! ### how a step is told -/
def stepV (s : StP) (kv : Value) : Value := .agg #[.int .i64 s.kind, .int .i64 s.a, .int .i64 s.b, .int .i64 s.n, .string s.text, kv]
/-- a slice of numbers, as it is read. -/
def IntsM (w : World) (v : Value) (l : List Int) : Prop := ∃ ad cap, v = .slice ad l.length cap ∧ ∀ i n, l[i]? = some n → ∃ pb po, ad = some ⟨pb, po, none⟩ ∧ w.cell? ⟨pb, po + i, none⟩ = some (.int .i64 n)
theorem IntsM.below {w w' : World} {v : Value} {l : List Int} (h : IntsM w v l) (k : Below w.heap.size w w') : IntsM w' v l := by
  obtain ⟨ad, cap, rfl, hc⟩ := h
  refine ⟨ad, cap, rfl, fun i n hi => ?_⟩
  obtain ⟨pb, po, e, h1⟩ := hc i n hi
  exact ⟨pb, po, e, (k.cell (cell_lt h1)).trans h1⟩
theorem ownS_one (w : World) (base : Nat) (s : ByteArray) (hb : base ≤ w.heap.size) : OwnS (w.alloc (.cells #[.string s] 9)) base (.slice (some ⟨w.heap.size, 0, none⟩) 1 1) [s] :=
  ⟨rfl, .inr ⟨w.heap.size, 1, #[.string s], rfl, hb, blk_new _ _, Nat.le_refl 1, by unfold maxLen; decide, rfl, rfl⟩⟩

set_option maxRecDepth 100000 in
set_option maxHeartbeats 1000000 in
theorem tell_A (a : Nat) (s : StP) (kv : Value) (W : World) (hr : s.inR) (hV : VarsV W) (hkv : ∃ ao n c, kv = .slice ao n c)
    (ha : W.heap[a]? = some (.cells #[.func (.func 40) #[] #[]] TG (0, 0))) :
    Calls Tryd.prog 61 #[stepV s kv, .pointer (some ⟨a, 0, none⟩)] W (ListPost (tellC 65 s) W) := by
  obtain ⟨ao, kn, kc, rfl⟩ := hkv
  have ha2 := blk_alloc ha (.cells #[.int .i64 s.kind, .int .i64 s.a, .int .i64 s.b, .int .i64 s.n, .string s.text, .slice ao kn kc] TSt)
  have ca := cell_of_blk ha2 0 (v := .func (.func 40) #[] #[]) rfl
  have hb0 : Below W.heap.size W (W.alloc (.cells #[.int .i64 s.kind, .int .i64 s.a, .int .i64 s.b, .int .i64 s.n, .string s.text, .slice ao kn kc] TSt)) := (Below.refl _ W).alloc (Nat.le_refl _) _
  have HI := Lib.hid (itoa_any s.a _ (by unfold StP.inR at hr; omega) (by unfold StP.inR at hr; omega) (hV.below hb0))
  have HB0 := Lib.hid hb0
  clear ha ha2 hV hb0 hr
  unfold stepV
  go_enter Tryd.func61, Tryd.ntmps61
  go_wp2_with fail
  refine (at_A W.heap.size _).mono ?_
  rintro e w1 ⟨rfl, rfl⟩
  go_wp2_with fail
  refine HI.out.mono ?_
  rintro e w2 ⟨rfl, hb2⟩
  have HB2 := Lib.hid (HB0.out.trans (hb2.mono HB0.out.size))
  clear hb2 HI
  go_wp2_with fail
  go_ret
  exact ⟨_, rfl, ownS_one _ _ _ HB2.out.size, HB2.out.alloc HB2.out.size _⟩

set_option maxRecDepth 100000 in
set_option maxHeartbeats 1000000 in
theorem tell_B (a : Nat) (s : StP) (kv : Value) (W : World) (hr : s.inR) (hV : VarsV W) (hkv : ∃ ao n c, kv = .slice ao n c)
    (ha : W.heap[a]? = some (.cells #[.func (.func 41) #[] #[]] TG (0, 0))) :
    Calls Tryd.prog 61 #[stepV s kv, .pointer (some ⟨a, 0, none⟩)] W (ListPost (tellC 66 s) W) := by
  obtain ⟨ao, kn, kc, rfl⟩ := hkv
  have ha2 := blk_alloc ha (.cells #[.int .i64 s.kind, .int .i64 s.a, .int .i64 s.b, .int .i64 s.n, .string s.text, .slice ao kn kc] TSt)
  have ca := cell_of_blk ha2 0 (v := .func (.func 41) #[] #[]) rfl
  have hb0 : Below W.heap.size W (W.alloc (.cells #[.int .i64 s.kind, .int .i64 s.a, .int .i64 s.b, .int .i64 s.n, .string s.text, .slice ao kn kc] TSt)) := (Below.refl _ W).alloc (Nat.le_refl _) _
  have HI := Lib.hid (itoa_any s.b _ (by unfold StP.inR at hr; omega) (by unfold StP.inR at hr; omega) (hV.below hb0))
  have HB0 := Lib.hid hb0
  clear ha ha2 hV hb0 hr
  unfold stepV
  go_enter Tryd.func61, Tryd.ntmps61
  go_wp2_with fail
  refine (at_B W.heap.size _).mono ?_
  rintro e w1 ⟨rfl, rfl⟩
  go_wp2_with fail
  refine HI.out.mono ?_
  rintro e w2 ⟨rfl, hb2⟩
  have HB2 := Lib.hid (HB0.out.trans (hb2.mono HB0.out.size))
  clear hb2 HI
  go_wp2_with fail
  go_ret
  exact ⟨_, rfl, ownS_one _ _ _ HB2.out.size, HB2.out.alloc HB2.out.size _⟩

set_option maxRecDepth 100000 in
set_option maxHeartbeats 1000000 in
theorem tell_N (a : Nat) (s : StP) (kv : Value) (W : World) (hr : s.inR) (hV : VarsV W) (hkv : ∃ ao n c, kv = .slice ao n c)
    (ha : W.heap[a]? = some (.cells #[.func (.func 42) #[] #[]] TG (0, 0))) :
    Calls Tryd.prog 61 #[stepV s kv, .pointer (some ⟨a, 0, none⟩)] W (ListPost (tellC 78 s) W) := by
  obtain ⟨ao, kn, kc, rfl⟩ := hkv
  have ha2 := blk_alloc ha (.cells #[.int .i64 s.kind, .int .i64 s.a, .int .i64 s.b, .int .i64 s.n, .string s.text, .slice ao kn kc] TSt)
  have ca := cell_of_blk ha2 0 (v := .func (.func 42) #[] #[]) rfl
  have hb0 : Below W.heap.size W (W.alloc (.cells #[.int .i64 s.kind, .int .i64 s.a, .int .i64 s.b, .int .i64 s.n, .string s.text, .slice ao kn kc] TSt)) := (Below.refl _ W).alloc (Nat.le_refl _) _
  have HI := Lib.hid (itoa_any s.n _ (by unfold StP.inR at hr; omega) (by unfold StP.inR at hr; omega) (hV.below hb0))
  have HB0 := Lib.hid hb0
  clear ha ha2 hV hb0 hr
  unfold stepV
  go_enter Tryd.func61, Tryd.ntmps61
  go_wp2_with fail
  refine (at_N W.heap.size _).mono ?_
  rintro e w1 ⟨rfl, rfl⟩
  go_wp2_with fail
  refine HI.out.mono ?_
  rintro e w2 ⟨rfl, hb2⟩
  have HB2 := Lib.hid (HB0.out.trans (hb2.mono HB0.out.size))
  clear hb2 HI
  go_wp2_with fail
  go_ret
  exact ⟨_, rfl, ownS_one _ _ _ HB2.out.size, HB2.out.alloc HB2.out.size _⟩

set_option maxRecDepth 100000 in
set_option maxHeartbeats 1000000 in
theorem tell_T (s : StP) (kv : Value) (W : World) (hs : s.text.size ≤ 35184372088000) (hkv : ∃ ao n c, kv = .slice ao n c) :
    Calls Tryd.prog 45 #[stepV s kv] W (ListPost (tellC 84 s) W) := by
  obtain ⟨ao, kn, kc, rfl⟩ := hkv
  have hb0 : Below W.heap.size W (W.alloc (.cells #[.int .i64 s.kind, .int .i64 s.a, .int .i64 s.b, .int .i64 s.n, .string s.text, .slice ao kn kc] TSt)) := (Below.refl _ W).alloc (Nat.le_refl _) _
  have HI := Lib.hid (word_any s.text (W.alloc (.cells #[.int .i64 s.kind, .int .i64 s.a, .int .i64 s.b, .int .i64 s.n, .string s.text, .slice ao kn kc] TSt)) hs)
  have HB0 := Lib.hid hb0
  clear hb0
  unfold stepV
  go_enter Tryd.func45, Tryd.ntmps45
  go_wp2_with fail
  refine HI.out.mono ?_
  rintro e w2 ⟨rfl, hb2⟩
  have HB2 := Lib.hid (HB0.out.trans (hb2.mono HB0.out.size))
  clear hb2 HI
  go_wp2_with fail
  go_ret
  exact ⟨_, rfl, ownS_one _ _ _ HB2.out.size, HB2.out.alloc HB2.out.size _⟩
def KeepRel (s : StP) (W : World) (v i : Value) (wr : World) : Prop := ∃ (k : Nat) (D : List ByteArray), k ≤ s.keep.length ∧ i = .int .i64 k ∧ D = (s.keep.take k).map itoaB ∧ OwnS wr W.heap.size v D ∧ Below W.heap.size W wr ∧ W.heap.size ≤ wr.heap.size
set_option maxRecDepth 100000 in
set_option maxHeartbeats 2000000 in
theorem tell_K (s : StP) (kv : Value) (W : World) (hr : s.inR) (hV : VarsV W) (hk : IntsM W kv s.keep) (hlen : s.keep.length ≤ 100000000) :
    Calls Tryd.prog 49 #[stepV s kv] W (ListPost (tellC 75 s) W) := by
  obtain ⟨ad, kc, rfl, hc⟩ := hk
  have hb0 : Below W.heap.size W (W.alloc (.cells #[.int .i64 s.kind, .int .i64 s.a, .int .i64 s.b, .int .i64 s.n, .string s.text, .slice ad s.keep.length kc] TSt)) := (Below.refl _ W).alloc (Nat.le_refl _) _
  have HB0 := Lib.hid hb0
  have HC := Lib.hid hc
  have HV := Lib.hid hV
  have HR := Lib.hid hr.2.2.2
  clear hb0 hc hV hr
  unfold stepV
  go_enter Tryd.func49, Tryd.ntmps49
  go_wp2_with fail
  generalize W.alloc (.cells #[.int .i64 s.kind, .int .i64 s.a, .int .i64 s.b, .int .i64 s.n, .string s.text, .slice ad s.keep.length kc] TSt) = w0 at HB0 ⊢
  go_loopw [3, 10] (fun v i wr => KeepRel s W v i wr) (fun _ i _ => s.keep.length - (intOf i).toNat)
  case atStart => exact ⟨0, [], Nat.zero_le _, rfl, rfl, ownL_nil _ _, HB0.out, HB0.out.size⟩
  case round =>
    obtain ⟨k, D, hk, rfl, hD, hO, hK, hsz⟩ := hrel
    have HO := Lib.hid hO
    have HK := Lib.hid hK
    have hll : D.length = k := by rw [hD, List.length_map, List.length_take]; omega
    have HD := Lib.hid hD
    have HLL := Lib.hid hll
    clear hO hK hD hll
    by_cases hlt : k < s.keep.length
    · obtain ⟨n, hn⟩ : ∃ n, s.keep[k]? = some n := ⟨_, List.getElem?_eq_getElem hlt⟩
      obtain ⟨pb, po, rfl, hcell⟩ := HC.out k n hn
      have hcell2 := (HK.out.cell (cell_lt hcell)).trans hcell
      have hrn := HR.out n (List.mem_of_getElem? hn)
      have hnew : D ++ [itoaB n] = (s.keep.take (k + 1)).map itoaB := by rw [HD.out, List.take_add_one, hn, List.map_append]; rfl
      have HN := Lib.hid hnew
      have hk0 : (0 : Int) ≤ (k : Int) := Int.natCast_nonneg _
      have hk1 : (k : Int) < (s.keep.length : Int) := by omega
      have HI := Lib.hid (itoa_any n wr hrn.1 hrn.2 (HV.out.below HK.out))
      have hll : D.length ≤ 100000000 := by rw [HLL.out]; omega
      clear hcell hnew hrn hn
      go_wp2_with fail
      refine HI.out.mono ?_
      rintro e w2 ⟨rfl, hb2⟩
      have HO2 := Lib.hid (HO.out.below hb2)
      have HK2 := Lib.hid (HK.out.trans (hb2.mono HK.out.size))
      have hsz2 : W.heap.size ≤ w2.heap.size := Nat.le_trans hsz hb2.size
      clear hb2 HI hcell2
      obtain ⟨i0, hi, hz0, hz1, hz2⟩ := info_parts infoStr
      have HI2 := Lib.hid hz2
      clear hz2
      go_wp2_with (first | (at_builtin; refine wpList_appL _ rfl _ _ 59 rfl i0 (.string ⟨#[]⟩) 16 Tryd.underlying59 hi hz0 hz1 HI2.out rfl (by decide) W.heap.size _ D rfl (OwnL.alloc HO2.out _) (itoaB n) rfl ⟨w2.heap.size, 0, none⟩ 1 rfl (one_str w2 _ _) ?_ ?_ (by decide) ?_ ?_) | fail)
      · first | rfl | (intro u hu; simp at hu; subst hu; rfl)
      · omega
      · first | omega | (rw [size_alloc]; omega)
      intro v4 w4 ho4 hg4 hown4
      have HF := Lib.hid (And.intro ho4 (below_appS HK2.out HO2.out hsz2 _ hg4))
      clear ho4 hg4 hown4 hll
      go_wp2_with fail
      refine ⟨⟨k + 1, D ++ [itoaB n], hlt, rfl, HN.out, HF.out.1, HF.out.2.1, HF.out.2.2⟩, ?_⟩
      show s.keep.length - ((k : Int) + 1).toNat < s.keep.length - (k : Int).toNat
      omega
    · obtain rfl : k = s.keep.length := by omega
      have hfin := HO.out
      rw [HD.out, List.take_length] at hfin
      have HF := Lib.hid hfin
      clear hfin
      go_wp2_with fail
      go_ret
      exact ⟨_, rfl, HF.out, HK.out⟩
end Go.Proofs.YtffolbdimkhmmaaDoor
