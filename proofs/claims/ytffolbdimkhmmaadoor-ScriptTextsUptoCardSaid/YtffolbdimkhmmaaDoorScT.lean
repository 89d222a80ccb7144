import Derived.Test.YtffolbdimkhmmaaDoorScR
import Derived.Test.YtffolbdimkhmmaaDoorQt
import Derived.Lib.OthersKept
set_option linter.unusedVariables false
set_option linter.unusedSimpArgs false
namespace Go.Proofs.YtffolbdimkhmmaaDoor
open Go Go.RowKit Go.Lib

/-! ### a place's word read, whichever place -/
theorem field_read (m a b n : Nat) (c : UInt8) (hc : isPl c) : ∃ (g : Nat) (lb : Array Value) (tv : Value), fieldV a b n c = .agg #[.func (.func g) #[] lb, tv, .bool (decide (c = 75))] ∧ (∃ h lc, tv = .func (.func h) #[] lc) ∧ (∀ args w, (callFunc g args).run Tryd.prog w = .ok (.enter g args) w) ∧
    ∀ (W : World) (x : Nat) (s : StP) (kv : Value) (ln : Int) (wd : ByteArray), FieldsM W m a b n → VarsV W → StB W x s kv ln → wd.size ≤ 35184372088000 → s.keep.length ≤ 100000000 →
      Calls Tryd.prog g (#[.pointer (some ⟨x, 0, none⟩), .string wd] ++ lb) W (RdPost x s kv ln c wd W) := by
  rcases hc with rfl | rfl | rfl | rfl | rfl
  · exact ⟨60, #[.pointer (some ⟨a, 0, none⟩)], _, rfl, ⟨_, _, rfl⟩, enters_of Tryd.func60 (by kernel_rfl) rfl, fun W x s kv ln wd hF hV hB hs hl => read_A x a s kv ln wd W (by omega) hV hB hF.a⟩
  · exact ⟨60, #[.pointer (some ⟨b, 0, none⟩)], _, rfl, ⟨_, _, rfl⟩, enters_of Tryd.func60 (by kernel_rfl) rfl, fun W x s kv ln wd hF hV hB hs hl => read_B x b s kv ln wd W (by omega) hV hB hF.b⟩
  · exact ⟨60, #[.pointer (some ⟨n, 0, none⟩)], _, rfl, ⟨_, _, rfl⟩, enters_of Tryd.func60 (by kernel_rfl) rfl, fun W x s kv ln wd hF hV hB hs hl => read_N x n s kv ln wd W (by omega) hV hB hF.n⟩
  · exact ⟨43, #[], _, rfl, ⟨_, _, rfl⟩, enters_of Tryd.func43 (by kernel_rfl) rfl, fun W x s kv ln wd hF hV hB hs hl => read_T x s kv ln wd W hs hB⟩
  · exact ⟨47, #[], _, rfl, ⟨_, _, rfl⟩, enters_of Tryd.func47 (by kernel_rfl) rfl, fun W x s kv ln wd hF hV hB hs hl => read_K x s kv ln wd W (by omega) hV hB hl⟩

/-! the words that are left -/
def WsM (w : World) (B : Nat) (v : Value) (L : List ByteArray) : Prop :=
  ∃ ad cap, v = .slice ad L.length cap ∧ L.length ≤ cap ∧ cap ≤ 9223372036854775807 ∧ ∀ i t, L[i]? = some t → ∃ pb po, ad = some ⟨pb, po, none⟩ ∧ pb < B ∧ w.cell? ⟨pb, po + i, none⟩ = some (.string t)
theorem WsM.below {w w' : World} {B : Nat} {v : Value} {L : List ByteArray} (h : WsM w B v L) (k : Below B w w') : WsM w' B v L := by
  obtain ⟨ad, cap, rfl, h1, h2, hc⟩ := h
  refine ⟨ad, cap, rfl, h1, h2, fun i t ht => ?_⟩
  obtain ⟨pb, po, e, hp, h3⟩ := hc i t ht
  exact ⟨pb, po, e, hp, (World.cell?_of_block (w := w) (k.block pb hp)).trans h3⟩
theorem WsM.base {w : World} {B B' : Nat} {v : Value} {L : List ByteArray} (h : WsM w B v L) (hB : B ≤ B') : WsM w B' v L := by
  obtain ⟨ad, cap, rfl, h1, h2, hc⟩ := h
  refine ⟨ad, cap, rfl, h1, h2, fun i t ht => ?_⟩
  obtain ⟨pb, po, e, hp, h3⟩ := hc i t ht
  exact ⟨pb, po, e, by omega, h3⟩
theorem ownS_ws {w : World} {base : Nat} {v : Value} {L : List ByteArray} (h : OwnS w base v L) : WsM w w.heap.size v L := by
  obtain ⟨ao, cap, hv, h1, h2, h3⟩ := OwnL.form h
  refine ⟨ao, cap, hv, h1, h2, fun i t ht => ?_⟩
  have hi : i < L.length := (List.getElem?_eq_some_iff.1 ht).1
  obtain ⟨g, hg, -, ⟨cur, fz, hh⟩, hc⟩ := h3 (by omega)
  refine ⟨g, 0, hg, (Array.getElem?_eq_some_iff.1 hh).1, ?_⟩
  rw [Nat.zero_add, hc i (by omega)]
  have : ∀ (l : List ByteArray) (j : Nat), (l.flatMap (fun s => [Value.string s]))[j]? = (l[j]?).map Value.string := by
    intro l
    induction l with
    | nil => intro j; rfl
    | cons y r ih =>
      intro j
      cases j with
      | zero => rfl
      | succ j => simpa using ih j
  rw [this, ht]
  rfl
theorem drop_ws {w : World} {B : Nat} {v : Value} {t : ByteArray} {r : List ByteArray} (h : WsM w B v (t :: r)) : ∃ v', (∀ W, (Instr.slice 59 v (some (.int .i64 1)) none none).run Tryd.prog W = .ok v' W) ∧ WsM w B v' r := by
  obtain ⟨ad, cap, rfl, h1, h2, hc⟩ := h
  have hs : ∀ W : World, (sizeOf (Tryd.prog.elem 59)).run Tryd.prog W = .ok 1 W := fun W => by kernel_rfl
  have hu : Tryd.prog.underlying 59 = some (.slice (Tryd.prog.elem 59)) := by kernel_rfl
  refine ⟨sliced ad 1 (r.length + 1) cap 1, fun W => ?_, ?_⟩
  · rw [run_slice_l (t := 59) (a := ad) (len := (t :: r).length) (cap := cap) (ht := hu) (kl := .i64) (l := 1) (h0 := by decide) (h1 := by rw [List.length_cons]; omega), hs]
    rfl
  · unfold sliced
    simp only [List.length_cons] at h1
    refine ⟨_, cap - 1, by rw [Nat.add_sub_cancel], by omega, by omega, fun i u hu2 => ?_⟩
    obtain ⟨pb, po, e, hp, h3⟩ := hc (i + 1) u (by simpa using hu2)
    have hi : i < r.length := (List.getElem?_eq_some_iff.1 hu2).1
    rw [if_neg (by omega), e]
    refine ⟨pb, po + 1, by rw [Option.map_some, Lib.add_plain], hp, ?_⟩
    rw [show po + 1 + i = po + (i + 1) by omega]
    exact h3
theorem ws_head {w : World} {B : Nat} {v : Value} {t : ByteArray} {r : List ByteArray} (h : WsM w B v (t :: r)) : ∃ pb po cap, v = .slice (some ⟨pb, po, none⟩) (r.length + 1) cap ∧ pb < B ∧ w.cell? ⟨pb, po, none⟩ = some (.string t) := by
  obtain ⟨ad, cap, rfl, h1, h2, hc⟩ := h
  obtain ⟨pb, po, e, hp, h3⟩ := hc 0 t rfl
  subst e
  exact ⟨pb, po, cap, rfl, hp, h3⟩

/-! the innermost loop, without memory -/
def takeN (c : UInt8) : Nat → List ByteArray → StP → Option (StP × List ByteArray)
  | 0, ws, s => some (s, ws)
  | _ + 1, [], s => none
  | n + 1, w :: ws, s => match putP c w s with
    | none => none
    | some s' => takeN c n ws s'
theorem takeN_keeps : ∀ (ws : List ByteArray) (s : StP), takeN 75 ws.length ws s = (keepsP ws s).map fun s' => (s', [])
  | [], s => rfl
  | w :: ws, s => by
    rw [List.length_cons, takeN, keepsP]
    cases putP 75 w s with
    | none => rfl
    | some s' => exact takeN_keeps ws s'
def needN (c : UInt8) (ws : List ByteArray) : Nat := if c = 75 then ws.length else 1
theorem fill_take (c : UInt8) (pl : List UInt8) (ws : List ByteArray) (s : StP) : fillP (c :: pl) ws s = if ws.length < needN c ws then none else match takeN c (needN c ws) ws s with
    | none => none
    | some q => fillP pl q.2 q.1 := by
  rw [fillP_cons]
  unfold needN
  by_cases h : c = 75
  · subst h
    rw [if_pos rfl, if_pos rfl, if_neg (by omega), takeN_keeps]
    cases keepsP ws s <;> rfl
  · rw [if_neg h, if_neg h]
    cases ws with
    | nil => rw [if_pos (by simp)]
    | cons w r =>
      rw [if_neg (by simp), takeN]
      show (match putP c w s with | none => none | some s' => fillP pl r s') = _
      cases putP c w s <;> rfl
/-- how many numbers a step that is being read keeps at most. -/
theorem put_keep {c : UInt8} {w : ByteArray} {s y : StP} (h : putP c w s = some y) : y.keep.length ≤ s.keep.length + 1 := by
  unfold putP at h
  split at h
  · obtain ⟨t, _, rfl⟩ := Option.map_eq_some_iff.1 h
    show s.keep.length ≤ _
    omega
  · obtain ⟨n, _, rfl⟩ := Option.map_eq_some_iff.1 h
    unfold setP
    split
    · show s.keep.length ≤ _; omega
    · split
      · show s.keep.length ≤ _; omega
      · split
        · show s.keep.length ≤ _; omega
        · show (s.keep ++ [n]).length ≤ _
          simp
end Go.Proofs.YtffolbdimkhmmaaDoor
