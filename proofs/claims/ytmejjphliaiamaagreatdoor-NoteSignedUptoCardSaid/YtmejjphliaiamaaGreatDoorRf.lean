import Derived.Test.YtmejjphliaiamaaGreatDoorWd
import Derived.RangeFuncIn
import Derived.RangeFuncRecord
import Derived.RangeFuncSeq
import Derived.RangeFuncCalls
set_option linter.unusedVariables false
namespace Go.Proofs.YtmejjphliaiamaaGreatDoor
open Go Go.RowKit

/-! ### a range over a function whose iterator keeps a state of its own in cells (the blocks that Bx names) -/
theorem Kp.putObj {S : Nat → Prop} {a w : World} (h : Kp S a w) {l : Nat} (o : Obj) (hl : S l) : Kp S a (w.putObj l o) :=
  h.trans ⟨rfl, rfl, rfl, by simp, fun k _ hn => World.putObj_heap_other (fun e => hn (e ▸ hl))⟩

/-- the iterator's contract: the caller's two invariants stand while blocks of Bx, and new ones, turn; a round leaves R as it was. -/
def SeqBox {α : Type} (m : Nat) (P : Program) (gf : Nat) (lb : Array Value) (encs : α → Array Value) (Bx R : Nat → Prop) (S Sp : List α → Prop) (w : World) : Prop :=
  ∀ (l : Nat) (J Jx : List α → World → Prop) (W : World), (∀ b, R b → W.heap[b]? = w.heap[b]?) → w.heap.size ≤ W.heap.size →
    (∀ s A B, J s A → Kp Bx A B → J s B) → (∀ s A B, Jx s A → Kp Bx A B → Jx s B) →
    (∀ pre x W1, Sp (pre ++ [x]) → J pre W1 → YieldAt Fence.wide (m - 1) P l (encs x) W1 fun e W' =>
      (e = .returned (.bool true) ∧ J (pre ++ [x]) W' ∧ W1.heap.size ≤ W'.heap.size ∧ ∀ b, R b → W'.heap[b]? = W1.heap[b]?) ∨ (e = .returned (.bool false) ∧ Jx (pre ++ [x]) W')) →
    J [] W →
    CallsIn Fence.wide m P gf (#[.func (.yield l) #[] #[]] ++ lb) W fun e W' => (∃ v, e = .returned v) ∧ ((∃ xs, S xs ∧ J xs W') ∨ (∃ pre, Sp pre ∧ Jx pre W'))

/-- what the loop's own book-keeping and the iterator may turn. -/
def LoopBk (Bx : Nat → Prop) (w : World) (k : Nat) : Prop := Bx k ∨ k = w.heap.size ∨ k = w.heap.size + 1
def BodyBk (R : Nat → Prop) (w : World) (k : Nat) : Prop := ¬ (R k ∨ k = w.heap.size ∨ k = w.heap.size + 1)
def boxPost {α : Type} (R : Nat → Prop) (w : World) (I : List α → World → Prop) (Ix : Code → List α → World → Prop) (xs : List α) (W : World) : Exit → Act → World → Prop
  | .normal, _, W' => Kp (BodyBk R w) W W' ∧ I xs W'
  | .ret, _, W' => Kp (BodyBk R w) W W' ∧ Ix .ret xs W'
  | .exit id, _, W' => Kp (BodyBk R w) W W' ∧ Ix (.exit id) xs W'
  | .goto t, _, W' => Kp (BodyBk R w) W W' ∧ Ix (.goto t) xs W'
  | .panic _, _, _ => False
  | .outgrown, _, _ => False

theorem Kp.keep {S : Nat → Prop} {W W' : World} (h : Kp S W W') {k : Nat} {o : Obj} (hk : W.heap[k]? = some o) (hn : ¬ S k) : W'.heap[k]? = some o :=
  (h.block k (Array.getElem?_eq_some_iff.1 hk).1 hn).trans hk

theorem wpIn_rangeFunc_box {α : Type} {n : Nat} {P : Program} {g : Operand} {ps : Array Tmp} {assign body : Code} {Q : Exit → Act → World → Prop} {a : Act} {w : World}
    {gf : Nat} {lb : Array Value} (hg : a.eval g = .func (.func gf) #[] lb) (eg : ∀ args w, (callFunc gf args).run P w = .ok (.enter gf args) w)
    {encs : α → Array Value} {Bx R : Nat → Prop} {S Sp : List α → Prop} (hseq : SeqBox (n - 1) P gf lb encs Bx R S Sp w) (hBR : ∀ b, Bx b → R b) (hRx : ∀ b, R b → b < w.heap.size) (hps : ∀ x, (encs x).size = ps.size)
    (I : List α → World → Prop) (Ix : Code → List α → World → Prop) (hI : ∀ s A B, I s A → Kp (LoopBk Bx w) A B → I s B) (hIx : ∀ c s A B, Ix c s A → Kp (LoopBk Bx w) A B → Ix c s B) (h0 : I [] w) (a₁ : α → Act)
    (hassign : ∀ (l : Nat) (x : α) (W : World) (K : Act → World → Prop), K (a₁ x) W →
      assign.wpIn (Fence.wide.inRound l) (n - 1 - 1) P (Exit.then K (fun _ _ _ => False)) { tmps := (ps.zip (encs x)).foldl (fun t (p, v) => t.setIfInBounds p v) a.tmps, defers := [] } W)
    (hbody : ∀ (l : Nat) (pre : List α) (x : α) (W : World), Sp (pre ++ [x]) → I pre W → w.heap.size + 1 < W.heap.size → body.wpIn (Fence.wide.inRound l) (n - 1 - 1) P (boxPost R w I Ix (pre ++ [x]) W) (a₁ x) W)
    (hdone : ∀ (xs : List α) (W : World), S xs → I xs W → W.heap[w.heap.size]? = some (.deferred (some [])) → Q .normal { a with defers := { target := .collected w.heap.size, args := #[] } :: a.defers } W)
    (hstop : ∀ (c : Code) (pre : List α) (W : World), Sp pre → Ix c pre W → W.heap[w.heap.size]? = some (.deferred (some [])) → c.wpIn Fence.wide n P Q { a with defers := { target := .collected w.heap.size, args := #[] } :: a.defers } W) :
    (Code.rangeFunc g ps assign body).wpIn Fence.wide n P Q a w := by
  refine wpIn_rangeFunc fun fn hfn => ?_
  obtain ⟨rec, hrec⟩ : ∃ rec : LoopState → Option Code → Loop, rec = fun st pe => { state := st, pending := pe, fn, tmps := a.tmps, params := ps, assign, body, defers := w.heap.size } := ⟨_, rfl⟩
  have hbD : ¬ Bx w.heap.size := fun h => absurd (hRx _ (hBR _ h)) (Nat.lt_irrefl _)
  have hbL : ¬ Bx (w.heap.size + 1) := fun h => by have := hRx _ (hBR _ h); omega
  have tD : LoopBk Bx w w.heap.size := .inr (.inl rfl)
  have tL : LoopBk Bx w (w.heap.size + 1) := .inr (.inr rfl)
  obtain ⟨W1, hW1⟩ : ∃ W1, W1 = (w.alloc (.deferred (some []))).alloc (.loop (rec .ready none)) := ⟨_, rfl⟩
  have hD1 : W1.heap[w.heap.size]? = some (.deferred (some [])) := by rw [hW1]; exact blk_new1 _ _ _
  have hL1 : W1.heap[w.heap.size + 1]? = some (.loop (rec .ready none)) := by rw [hW1]; exact blk_new2 _ _ _
  have hK1 : Kp (LoopBk Bx w) w W1 := by rw [hW1]; exact ((Kp.refl _ w).alloc _).alloc _
  refine ⟨w.heap.size + 1, [{ target := .collected w.heap.size, args := #[] }], W1, { target := .fn (.func gf) lb, args := #[.func (.yield (w.heap.size + 1)) #[] #[]] }, W1, gf, #[.func (.yield (w.heap.size + 1)) #[] #[]] ++ lb, W1, ?_, ?_, fun _ _ => trivial, ?_, fun h => by simp [Fence.wide] at h, ?_⟩
  · rw [hW1, hrec]; exact run_enterLoop_outer _ _ _ _ _
  · simp only [resolve, hg]
    simp [go_sem]
  · simp [invoke, go_sem, eg]
  · refine (hseq (w.heap.size + 1)
      (fun pre W => I pre W ∧ W.heap[w.heap.size + 1]? = some (.loop (rec .ready none)) ∧ W.heap[w.heap.size]? = some (.deferred (some [])))
      (fun pre W => ∃ c, Ix c pre W ∧ W.heap[w.heap.size + 1]? = some (.loop (rec .done (some c))) ∧ W.heap[w.heap.size]? = some (.deferred (some [])))
      W1 (fun b hb => by rw [hW1]; exact (Below.heap_alloc _ _ _ (by rw [size_alloc]; have := hRx b hb; omega)).trans (Below.heap_alloc _ _ _ (hRx b hb))) hK1.size
      (fun s A B hs hk => ⟨hI s A B hs.1 (hk.mono fun _ h => .inl h), hk.keep hs.2.1 hbL, hk.keep hs.2.2 hbD⟩)
      (fun s A B hs hk => by obtain ⟨c, h1, h2, h3⟩ := hs; exact ⟨c, hIx c s A B h1 (hk.mono fun _ h => .inl h), hk.keep h2 hbL, hk.keep h3 hbD⟩)
      ?_ ⟨hI _ _ _ h0 hK1, hL1, hD1⟩).mono ?_
    · rintro pre x W hsp ⟨hi, hl, hd⟩
      have hlt : w.heap.size + 1 < W.heap.size := (Array.getElem?_eq_some_iff.1 hl).1
      have hy := run_yield (P := P) (args := encs x) hl (by rw [hrec]; exact hps x)
      rw [hrec] at hy
      refine ⟨fn, _, assign, body, hy, roundIn_of_wpIn hfn (hassign _ x W _ ⟨_, run_beginRound hl (by rw [hrec]), ?_⟩)⟩
      obtain ⟨W2, hW2⟩ : ∃ W2, W2 = W.putObj (w.heap.size + 1) (.loop { rec .ready none with state := .busy }) := ⟨_, rfl⟩
      rw [← hW2]
      have hl2 : W2.heap[w.heap.size + 1]? = some (.loop { rec .ready none with state := .busy }) := by rw [hW2]; exact World.putObj_heap_same hlt
      have hd2 : W2.heap[w.heap.size]? = some (.deferred (some [])) := by rw [hW2]; exact (World.putObj_heap_other (by omega)).trans hd
      have hk2 : Kp (LoopBk Bx w) W W2 := by rw [hW2]; exact (Kp.refl _ W).putObj _ tL
      have hb2 : ∀ b, R b → W2.heap[b]? = W.heap[b]? := fun b hb => by rw [hW2]; exact World.putObj_heap_other (by have := hRx b hb; omega)
      have hs2 : W.heap.size ≤ W2.heap.size := hk2.size
      refine wpIn_mono (hbody _ pre x W2 hsp (hI _ _ _ hi hk2) (by omega)) ?_
      have fin : ∀ (jump : Option Code) (W3 : World), Kp (BodyBk R w) W2 W3 →
          ∃ W4, (Instr.endRound (w.heap.size + 1) jump).run P W3 = .ok (.bool jump.isNone) W4 ∧ Kp (LoopBk Bx w) W3 W4 ∧
            W4.heap[w.heap.size + 1]? = some (.loop (rec (if jump.isNone then .ready else .done) jump)) ∧ W4.heap[w.heap.size]? = some (.deferred (some [])) ∧ W.heap.size ≤ W4.heap.size ∧ ∀ b, R b → W4.heap[b]? = W.heap[b]? := fun jump W3 hk3 => by
        have hl3 := hk3.keep hl2 (fun h => h (.inr (.inr rfl)))
        have hd3 := hk3.keep hd2 (fun h => h (.inr (.inl rfl)))
        have hr := run_endRound (P := P) jump hl3
        rw [hrec] at hr
        refine ⟨_, hr, (Kp.refl _ W3).putObj _ tL, ?_, (World.putObj_heap_other (by omega)).trans hd3, ?_, fun b hb => ?_⟩
        · rw [World.putObj_heap_same (Array.getElem?_eq_some_iff.1 hl3).1, hrec]
        · rw [World.putObj_size]; exact Nat.le_trans hs2 hk3.size
        · rw [World.putObj_heap_other (by have := hRx b hb; omega), hk3.block b (by have := hRx b hb; omega) (fun h => h (.inl hb)), hb2 b hb]
      rintro e a3 W3 hp
      cases e with
      | normal =>
        obtain ⟨hk3, hi3⟩ := hp
        obtain ⟨W4, hr, hk4, hl4, hd4, hs4, hb4⟩ := fin none W3 hk3
        exact ⟨_, W4, hr, .inl ⟨rfl, ⟨hI _ _ _ hi3 hk4, hl4, hd4⟩, hs4, hb4⟩⟩
      | ret =>
        obtain ⟨hk3, hi3⟩ := hp
        obtain ⟨W4, hr, hk4, hl4, hd4, hs4, hb4⟩ := fin (some .ret) W3 hk3
        exact ⟨_, W4, hr, .inr ⟨rfl, .ret, hIx _ _ _ _ hi3 hk4, hl4, hd4⟩⟩
      | exit id =>
        obtain ⟨hk3, hi3⟩ := hp
        obtain ⟨W4, hr, hk4, hl4, hd4, hs4, hb4⟩ := fin (some (.exit id)) W3 hk3
        exact ⟨_, W4, hr, .inr ⟨rfl, .exit id, hIx _ _ _ _ hi3 hk4, hl4, hd4⟩⟩
      | goto t =>
        obtain ⟨hk3, hi3⟩ := hp
        obtain ⟨W4, hr, hk4, hl4, hd4, hs4, hb4⟩ := fin (some (.goto t)) W3 hk3
        exact ⟨_, W4, hr, .inr ⟨rfl, .goto t, hIx _ _ _ _ hi3 hk4, hl4, hd4⟩⟩
      | panic ch => exact hp.elim
      | outgrown => exact hp.elim
    · rintro e W2 ⟨⟨v, rfl⟩, (⟨xs, hS, hi, hl, hd⟩ | ⟨pre, hSp, c, hi, hl, hd⟩)⟩
      · have hr := run_endLoop (P := P) hl (by rw [hrec]; simp)
        rw [hrec] at hr
        exact ⟨none, _, hr, hdone xs _ hS (hI _ _ _ hi ((Kp.refl _ W2).putObj _ tL)) ((World.putObj_heap_other (by omega)).trans hd)⟩
      · have hr := run_endLoop (P := P) hl (by rw [hrec]; simp)
        rw [hrec] at hr
        exact ⟨some c, _, hr, hstop c pre _ hSp (hIx c _ _ _ hi ((Kp.refl _ W2).putObj _ tL)) ((World.putObj_heap_other (by omega)).trans hd)⟩
end Go.Proofs.YtmejjphliaiamaaGreatDoor
