import Derived.Test.YtobepddifflpdaaDoorTlK
set_option linter.unusedVariables false
namespace Go.Proofs.YtobepddifflpdaaDoor
open Go Go.RowKit Go.Lib Go.Sort Go.Maps Go.WideMaps

/-- a tile of a list of n. -/
def InT (n l i x : Nat) : Prop := l ≤ 10 ∧ 4 * i < n / 2 ^ (2 * l) ∧ x = min 4 (n / 2 ^ (2 * l) - 4 * i)
def AskP (n : Nat) (p : ByteArray) : Prop := ∃ l i x : Nat, InT n l i x ∧ p = pathT l i x
def OkP (Z : Src) (n : Nat) (p : ByteArray) : Prop := ∃ (l i x : Nat) (t : ByteArray), InT n l i x ∧ p = pathT l i x ∧ Good Z l i x t
def BadAt (Z : Src) (n : Nat) (p : ByteArray) (e : Int) : Prop := ∃ l i x : Nat, InT n l i x ∧ p = pathT l i x ∧ BadP Z l i x e
def Ev (Z : Src) (n c : Nat) (e e' : Int) (s s' : Z.σ) : Prop := ∃ new, Z.log s' = Z.log s ++ new ∧ new.length ≤ c ∧ (∀ p ∈ new, AskP n p) ∧ (e ≠ 0 → e' = e ∧ new = []) ∧ (e' = 0 → ∀ p ∈ new, OkP Z n p) ∧ (e = 0 → e' ≠ 0 → ∃ p ∈ new, BadAt Z n p e')

theorem Ev.refl (Z : Src) (n c : Nat) (e : Int) (s : Z.σ) : Ev Z n c e e s s := ⟨[], by simp, Nat.zero_le _, (fun p h => by cases h), fun _ => ⟨rfl, rfl⟩, (fun _ p h => by cases h), fun h h' => absurd h h'⟩
theorem Ev.trans {Z : Src} {n c d : Nat} {e1 e2 e3 : Int} {s1 s2 s3 : Z.σ} (h : Ev Z n c e1 e2 s1 s2) (k : Ev Z n d e2 e3 s2 s3) : Ev Z n (c + d) e1 e3 s1 s3 := by
  obtain ⟨a, a1, a2, a3, a4, a5, a6⟩ := h
  obtain ⟨b, b1, b2, b3, b4, b5, b6⟩ := k
  refine ⟨a ++ b, by rw [b1, a1, List.append_assoc], by rw [List.length_append]; omega, fun p hp => (List.mem_append.1 hp).elim (a3 p) (b3 p), fun h1 => ?_, fun h3 p hp => ?_, fun h1 h3 => ?_⟩
  · obtain ⟨rfl, rfl⟩ := a4 h1
    obtain ⟨rfl, rfl⟩ := b4 h1
    exact ⟨rfl, rfl⟩
  · have h2 : e2 = 0 := by
      by_cases h : e2 = 0
      · exact h
      · have := (b4 h).1; omega
    exact (List.mem_append.1 hp).elim (a5 h2 p) (b5 h3 p)
  · by_cases h2 : e2 = 0
    · obtain ⟨p, hp, hb⟩ := b6 h2 h3
      exact ⟨p, List.mem_append.2 (.inr hp), hb⟩
    · obtain ⟨rfl, rfl⟩ := b4 h2
      obtain ⟨p, hp, hb⟩ := a6 h1 h2
      exact ⟨p, List.mem_append.2 (.inl hp), hb⟩
theorem Ev.mono {Z : Src} {n c d : Nat} {e1 e2 : Int} {s1 s2 : Z.σ} (h : Ev Z n c e1 e2 s1 s2) (hc : c ≤ d) : Ev Z n d e1 e2 s1 s2 := by
  obtain ⟨a, a1, a2, r⟩ := h
  exact ⟨a, a1, Nat.le_trans a2 hc, r⟩
theorem Ev.len {Z : Src} {n c : Nat} {e1 e2 : Int} {s1 s2 : Z.σ} (h : Ev Z n c e1 e2 s1 s2) : (Z.log s2).length ≤ (Z.log s1).length + c := by
  obtain ⟨a, a1, a2, r⟩ := h
  rw [a1, List.length_append]; omega
theorem Ev.zero {Z : Src} {n c : Nat} {e1 e2 : Int} {s1 s2 : Z.σ} (h : Ev Z n c e1 e2 s1 s2) (h2 : e2 = 0) : e1 = 0 := by
  obtain ⟨a, a1, a2, a3, a4, _⟩ := h
  by_cases h : e1 = 0
  · exact h
  · have := (a4 h).1; omega

/-- what the reader leaves behind. -/
structure Left (Z : Src) (rb kb n c : Nat) (w : World) (e : Int) (s : Z.σ) (w' : World) (e' : Int) (s' : Z.σ) : Prop where
  rd : Rd Z rb kb n w' e' s'
  kp : Kp (RdS Z rb kb s) w w'
  rg : ∀ k, Z.R s' k → Z.R s k ∨ w.heap.size ≤ k
  sg : ∀ k, Z.S s' k → Z.S s k ∨ w.heap.size ≤ k
  ev : Ev Z n c e e' s s'
theorem Left.refl {Z : Src} {rb kb n : Nat} (c : Nat) {w : World} {e : Int} {s : Z.σ} (h : Rd Z rb kb n w e s) : Left Z rb kb n c w e s w e s := ⟨h, Kp.refl _ _, fun _ h => .inl h, fun _ h => .inl h, Ev.refl _ _ _ _ _⟩
theorem Left.trans {Z : Src} {rb kb n c d : Nat} {w1 w2 w3 : World} {e1 e2 e3 : Int} {s1 s2 s3 : Z.σ} (h : Left Z rb kb n c w1 e1 s1 w2 e2 s2) (k : Left Z rb kb n d w2 e2 s2 w3 e3 s3) : Left Z rb kb n (c + d) w1 e1 s1 w3 e3 s3 := by
  have hsz := h.kp.size
  refine ⟨k.rd, h.kp.trans' k.kp (fun i hi => ?_), fun i hi => ?_, fun i hi => ?_, h.ev.trans k.ev⟩
  · rcases hi with hi | hi | hi
    · exact .inl (.inl hi)
    · exact .inl (.inr (.inl hi))
    · exact (h.sg i hi).imp (fun h => .inr (.inr h)) (fun h => h)
  · rcases k.rg i hi with hi | hi
    · exact h.rg i hi
    · exact .inr (by omega)
  · rcases k.sg i hi with hi | hi
    · exact h.sg i hi
    · exact .inr (by omega)
theorem Left.mono {Z : Src} {rb kb n c d : Nat} {w1 w2 : World} {e1 e2 : Int} {s1 s2 : Z.σ} (h : Left Z rb kb n c w1 e1 s1 w2 e2 s2) (hc : c ≤ d) : Left Z rb kb n d w1 e1 s1 w2 e2 s2 := ⟨h.rd, h.kp, h.rg, h.sg, h.ev.mono hc⟩
theorem Left.below {Z : Src} {rb kb n c : Nat} {w1 w2 w3 : World} {e1 e2 : Int} {s1 s2 : Z.σ} (h : Left Z rb kb n c w1 e1 s1 w2 e2 s2) (k : Below w2.heap.size w2 w3) : Left Z rb kb n c w1 e1 s1 w3 e2 s2 := ⟨h.rd.below k, h.kp.below k, h.rg, h.sg, h.ev⟩
/-- blocks of one's own stay. -/
theorem Left.blk {Z : Src} {rb kb n c : Nat} {w1 w2 : World} {e1 e2 : Int} {s1 s2 : Z.σ} (h : Left Z rb kb n c w1 e1 s1 w2 e2 s2) (h1 : Z.I w1 s1) {b : Nat} {o : Obj} (hb : w1.heap[b]? = some o) (hr : b ≠ rb) (hk : b ≠ kb) (hS : ¬ Z.S s1 b) : w2.heap[b]? = some o :=
  blk_kp hb h.kp (fun hi => hi.elim hr (fun hi => hi.elim hk hS))

/-- the nodes are what the tiles say. -/
structure Vals (Z : Src) (n : Nat) (V : Nat → Nat → ByteArray) : Prop where
  even : ∀ l i x t j, InT n l i x → Good Z l i x t → j < x → t.extract (32 * j) (32 * j + 32) = V (2 * l) (4 * i + j)
  odd : ∀ l k, V (2 * l + 1) k = nodeB (V (2 * l) (2 * k)) (V (2 * l) (2 * k + 1))

def RdPost (Z : Src) (rb kb n c : Nat) (V : ByteArray) (w : World) (e : Int) (s : Z.σ) (en : Ending) (w' : World) : Prop :=
  ∃ t e' s', en = .returned (.string t) ∧ Left Z rb kb n c w e s w' e' s' ∧ (e' = 0 → t = V) ∧ t.size ≤ 10000000000

theorem node_err (Z : Src) (rb kb n : Nat) (V : ByteArray) (h k : Int) (w : World) (e : Int) (s : Z.σ) (hR : Rd Z rb kb n w e s) (he : e ≠ 0) :
    Calls Tryd.prog 73 #[.pointer (some ⟨rb, 0, none⟩), .int .i64 h, .int .i64 k] w (RdPost Z rb kb n 0 V w e s) := by
  have c2 : w.cell? ⟨rb, 2, none⟩ = some (.int .i64 e) := cell_of_blk hR.blk 2 rfl
  have HR := Lib.hid hR
  clear hR
  go_enter Tryd.func73, Tryd.ntmps73
  go_wp2_with fail
  go_ret
  exact ⟨⟨#[]⟩, e, s, rfl, Left.refl 0 HR.out, fun h => absurd h he, Nat.zero_le _⟩

set_option maxRecDepth 100000 in
set_option maxHeartbeats 1000000 in
theorem node_even (Z : Src) (rb kb n l k : Nat) (V : Nat → Nat → ByteArray) (hV : Vals Z n V) (w : World) (s : Z.σ) (hR : Rd Z rb kb n w 0 s) (hl : l ≤ 10) (hk : (k + 1) * 2 ^ (2 * l) ≤ n) (hlog : (Z.log s).length ≤ 800000000) :
    Calls Tryd.prog 73 #[.pointer (some ⟨rb, 0, none⟩), .int .i64 ((2 * l : Nat) : Int), .int .i64 k] w (RdPost Z rb kb n 1 (V (2 * l) k) w 0 s) := by
  have c1 : w.cell? ⟨rb, 1, none⟩ = some (.int .i64 n) := cell_of_blk hR.blk 1 rfl
  have c2 : w.cell? ⟨rb, 2, none⟩ = some (.int .i64 0) := cell_of_blk hR.blk 2 rfl
  obtain ⟨N, hN⟩ : ∃ N, N = n / 2 ^ (2 * l) := ⟨_, rfl⟩
  have hkN : k < N := by
    rw [hN]
    exact (Nat.le_div_iff_mul_le (Nat.two_pow_pos _)).2 hk
  have hNn : N ≤ 1024 := by
    have := hR.nle
    have h2 : n / 2 ^ (2 * l) ≤ n := Nat.div_le_self _ _
    omega
  obtain ⟨i, hi⟩ : ∃ i, i = k / 4 := ⟨_, rfl⟩
  obtain ⟨x, hx⟩ : ∃ x, x = min 4 (N - 4 * i) := ⟨_, rfl⟩
  obtain ⟨hh, hhh⟩ : ∃ hh, hh = 2 * l := ⟨_, rfl⟩
  have hInT : InT n l i x := ⟨hl, by rw [← hN]; omega, by rw [hx, hN]⟩
  have hfit : fitT l i x = true := by
    unfold fitT
    simp only [Bool.and_eq_true, decide_eq_true_eq]
    omega
  have hwd : ∀ w', Calls Tryd.prog 35 #[.int .i64 n, .int .i64 l, .int .i64 i] w' fun e w'' => e = .returned (.int .i64 x) ∧ w'' = w' := fun w' =>
    (width_any n l i w' (by have := hR.nle; omega) (by omega) (by omega)).mono fun e w'' h => ⟨by rw [h.1, ← hN]; congr 2; omega, h.2⟩
  have HR := Lib.hid hR
  rw [← hhh]
  have q1 : (hh : Int) / 2 = (l : Int) := by omega
  have q2 : (k : Int) / 4 = (i : Int) := by omega
  have q3 : ((hh : Int) % 2 == 0) = true := by
    have : (hh : Int) % 2 = 0 := by omega
    rw [this]; rfl
  have hrange : hh ≤ 20 := by omega
  have HI := Lib.hid hi
  have HX := Lib.hid hx
  have HN := Lib.hid hN
  have HH := Lib.hid hhh
  clear hR hk hi hx hN hhh
  go_enter Tryd.func73, Tryd.ntmps73
  go_wp2_with fail
  refine (hwd w).mono ?_
  rintro e w0 ⟨rfl, rfl⟩
  go_wp2_with fail
  have hb1 : Below w0.heap.size w0 (w0.alloc (.cells #[.int .i64 l, .int .i64 i, .int .i64 x] 23)) := (Below.refl _ _).alloc (Nat.le_refl _) _
  have L1 : Left Z rb kb n 0 w0 0 s (w0.alloc (.cells #[.int .i64 l, .int .i64 i, .int .i64 x] 23)) 0 s := (Left.refl 0 HR.out).below hb1
  generalize w0.alloc (.cells #[.int .i64 l, .int .i64 i, .int .i64 x] 23) = w1 at hb1 L1 ⊢
  have HL1 := Lib.hid L1
  clear hb1 L1 c1 c2
  refine (tile_any Z rb kb n l i x w1 s HL1.out.rd hfit hlog).mono ?_
  rintro e w2 ⟨t, e', s', rfl, hR2, hk2, hr2, hs2, hcase⟩
  have c2 : w2.cell? ⟨rb, 2, none⟩ = some (.int .i64 e') := cell_of_blk hR2.blk 2 rfl
  have hL2 : Left Z rb kb n 1 w1 0 s w2 e' s' := by
    refine ⟨hR2, hk2, hr2, hs2, ?_⟩
    rcases hcase with ⟨rfl, hg, hlg | hlg⟩ | ⟨hbad, _, hlg⟩
    · exact ⟨[], by rw [hlg, List.append_nil], by simp, (fun p h => by cases h), fun h => absurd rfl h, (fun _ p h => by cases h), fun _ h => absurd rfl h⟩
    · refine ⟨[pathT l i x], hlg, by simp, fun p hp => ?_, fun h => absurd rfl h, fun _ p hp => ?_, fun _ h => absurd rfl h⟩
      · obtain rfl := List.mem_singleton.1 hp; exact ⟨l, i, x, hInT, rfl⟩
      · obtain rfl := List.mem_singleton.1 hp; exact ⟨l, i, x, t, hInT, rfl, hg⟩
    · refine ⟨[pathT l i x], hlg, by simp, fun p hp => ?_, fun h => absurd rfl h, fun h p hp => absurd h hbad.1, fun _ h => ⟨_, List.mem_singleton.2 rfl, l, i, x, hInT, rfl, hbad⟩⟩
      obtain rfl := List.mem_singleton.1 hp; exact ⟨l, i, x, hInT, rfl⟩
  have HL2 := Lib.hid (HL1.out.trans hL2)
  clear hR2 hk2 hr2 hs2 hL2
  rcases hcase with ⟨rfl, hg, hlg⟩ | ⟨hbad, rfl, hlg⟩
  · have HG := Lib.hid hg
    have hts : t.size = 32 * x := hg.2
    clear hg hlg
    obtain ⟨j, hj⟩ : ∃ j, j = k % 4 := ⟨_, rfl⟩
    have q4 : (k : Int) % 4 = (j : Int) := by omega
    have hx2 := HX.out
    have hi2 := HI.out
    have hjx : j < x := by omega
    have hjt : (32 * (j : Int) + 32) ≤ t.size := by omega
    have hjn : 32 * j + 32 ≤ t.size := by omega
    have hj4 : j < 4 := by omega
    have HX2 := Lib.hid (show k = 4 * i + j by omega)
    clear hx2 hi2 hj
    go_wp2_with fail
    go_ret
    refine ⟨_, 0, s', rfl, HL2.out.mono (by omega), fun _ => ?_, ?_⟩
    · have := hV.even l i x t j hInT HG.out hjx
      rw [HX2.out, HH.out, ← this]
    · show (t.extract _ _).size ≤ _
      rw [ByteArray.size_extract]
      omega
  · have he := hbad.1
    go_wp2_with fail
    go_ret
    exact ⟨⟨#[]⟩, e', s', rfl, HL2.out.mono (by omega), fun h => absurd h hbad.1, Nat.zero_le _⟩

theorem RdPost.mono {Z : Src} {rb kb n c d : Nat} {V : ByteArray} {w : World} {e : Int} {s : Z.σ} {en : Ending} {w' : World} (h : RdPost Z rb kb n c V w e s en w') (hc : c ≤ d) : RdPost Z rb kb n d V w e s en w' := by
  obtain ⟨t, e', s', h1, h2, r⟩ := h
  exact ⟨t, e', s', h1, h2.mono hc, r⟩
theorem node_ev (Z : Src) (rb kb n l k : Nat) (V : Nat → Nat → ByteArray) (hV : Vals Z n V) (w : World) (e : Int) (s : Z.σ) (hR : Rd Z rb kb n w e s) (hl : l ≤ 10) (hk : (k + 1) * 2 ^ (2 * l) ≤ n) (hlog : (Z.log s).length ≤ 800000000) :
    Calls Tryd.prog 73 #[.pointer (some ⟨rb, 0, none⟩), .int .i64 ((2 * l : Nat) : Int), .int .i64 k] w (RdPost Z rb kb n 1 (V (2 * l) k) w e s) := by
  by_cases he : e = 0
  · subst he; exact node_even Z rb kb n l k V hV w s hR hl hk hlog
  · exact (node_err Z rb kb n _ _ _ w e s hR he).mono fun en w' h => h.mono (by omega)

set_option maxRecDepth 100000 in
set_option maxHeartbeats 1000000 in
theorem node_odd (Z : Src) (rb kb n l k : Nat) (V : Nat → Nat → ByteArray) (hV : Vals Z n V) (w : World) (s : Z.σ) (hR : Rd Z rb kb n w 0 s) (hl : l ≤ 10) (hk : (k + 1) * 2 ^ (2 * l + 1) ≤ n) (hlog : (Z.log s).length ≤ 700000000) :
    Calls Tryd.prog 73 #[.pointer (some ⟨rb, 0, none⟩), .int .i64 ((2 * l + 1 : Nat) : Int), .int .i64 k] w (RdPost Z rb kb n 2 (V (2 * l + 1) k) w 0 s) := by
  have c2 : w.cell? ⟨rb, 2, none⟩ = some (.int .i64 0) := cell_of_blk hR.blk 2 rfl
  have hk2 : (2 * k + 1 + 1) * 2 ^ (2 * l) ≤ n := by
    rw [Nat.pow_succ] at hk
    have : (2 * k + 1 + 1) * 2 ^ (2 * l) = (k + 1) * (2 ^ (2 * l) * 2) := by
      rw [Nat.mul_comm (2 ^ (2 * l)) 2, ← Nat.mul_assoc]
      congr 1
      omega
    omega
  have hk1 : (2 * k + 1) * 2 ^ (2 * l) ≤ n := Nat.le_trans (Nat.mul_le_mul_right _ (by omega)) hk2
  have hkn : 2 * k + 1 ≤ n := by
    have h1 : 1 ≤ 2 ^ (2 * l) := Nat.two_pow_pos _
    have := Nat.mul_le_mul_left (2 * k + 1) h1
    omega
  have hn := hR.nle
  have HR := Lib.hid hR
  have HK1 := Lib.hid hk1
  have HK2 := Lib.hid hk2
  obtain ⟨hh, hhh⟩ : ∃ hh, hh = 2 * l + 1 := ⟨_, rfl⟩
  obtain ⟨h0, hh0⟩ : ∃ h0, h0 = 2 * l := ⟨_, rfl⟩
  have HH := Lib.hid hhh
  have HH0 := Lib.hid hh0
  have q3 : ((hh : Int) % 2 == 0) = false := by
    have : (hh : Int) % 2 = 1 := by omega
    rw [this]; rfl
  have q1 : (hh : Int) - 1 = (h0 : Int) := by omega
  obtain ⟨k1, hk1e⟩ : ∃ k1, k1 = 2 * k := ⟨_, rfl⟩
  have q2 : 2 * (k : Int) = (k1 : Int) := by omega
  have hrange : hh ≤ 21 := by omega
  have HK := Lib.hid hk1e
  have hk1n : k1 + 1 ≤ 1024 := by omega
  rw [← hhh]
  clear hR hk hk1 hk2 hhh hh0 hk1e hkn
  go_enter Tryd.func73, Tryd.ntmps73
  go_wp2_with fail
  have hc1 := node_ev Z rb kb n l k1 V hV w 0 s HR.out hl (by rw [HK.out]; exact HK1.out) (by omega)
  rw [← HH0.out] at hc1
  refine hc1.mono ?_
  rintro e w1 ⟨t1, e1, s1, rfl, hL1, hv1, ht1⟩
  have HL1 := Lib.hid hL1
  have HV1 := Lib.hid hv1
  have hlen1 := hL1.ev.len
  clear hL1 hv1 hc1 c2
  go_wp2_with fail
  have hc2 := node_ev Z rb kb n l (k1 + 1) V hV w1 e1 s1 HL1.out.rd hl (by rw [HK.out]; exact HK2.out) (by omega)
  rw [← HH0.out] at hc2
  refine hc2.mono ?_
  rintro e w2 ⟨t2, e2, s2, rfl, hL2, hv2, ht2⟩
  have HL2 := Lib.hid (HL1.out.trans hL2)
  have HZ := Lib.hid hL2.ev.zero
  have HV2 := Lib.hid hv2
  clear hL2 hv2 hc2
  go_wp2_with fail
  refine (node_any t1 t2 w2 ht1 ht2).mono ?_
  rintro e w3 ⟨rfl, hb3⟩
  have HL3 := Lib.hid (HL2.out.below hb3)
  clear hb3
  go_wp2_with fail
  go_ret
  refine ⟨nodeB t1 t2, e2, s2, rfl, HL3.out, fun h => ?_, by unfold nodeB; rw [shaB_size]; omega⟩
  rw [HH.out, hV.odd l k, HV1.out (HZ.out h), HV2.out h, HK.out, HH0.out]

theorem node_all (Z : Src) (rb kb n h k : Nat) (V : Nat → Nat → ByteArray) (hV : Vals Z n V) (w : World) (e : Int) (s : Z.σ) (hR : Rd Z rb kb n w e s) (hh : h ≤ 20) (hk : (k + 1) * 2 ^ h ≤ n) (hlog : (Z.log s).length ≤ 700000000) :
    Calls Tryd.prog 73 #[.pointer (some ⟨rb, 0, none⟩), .int .i64 h, .int .i64 k] w (RdPost Z rb kb n 2 (V h k) w e s) := by
  by_cases he : e = 0
  · subst he
    by_cases hp : h % 2 = 0
    · obtain ⟨l, rfl⟩ : ∃ l, h = 2 * l := ⟨h / 2, by omega⟩
      exact (node_even Z rb kb n l k V hV w s hR (by omega) hk (by omega)).mono fun en w' h => h.mono (by omega)
    · obtain ⟨l, rfl⟩ : ∃ l, h = 2 * l + 1 := ⟨h / 2, by omega⟩
      exact node_odd Z rb kb n l k V hV w s hR (by omega) hk hlog
  · exact (node_err Z rb kb n _ _ _ w e s hR he).mono fun en w' h => h.mono (by omega)
end Go.Proofs.YtobepddifflpdaaDoor
