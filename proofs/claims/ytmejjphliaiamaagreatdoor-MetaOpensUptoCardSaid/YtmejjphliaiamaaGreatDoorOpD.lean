/-
  An argument that is a document opened to cells, with bounds of what it holds.
-/
import Derived.Test.YtmejjphliaiamaaGreatDoorOpS
import Derived.Test.YtmejjphliaiamaaGreatDoorMfV
set_option linter.unusedVariables false
set_option linter.unusedSimpArgs false
namespace Go.Proofs.YtmejjphliaiamaaGreatDoor
open Go Go.ChangeShapes Go.WideShapes Go.ChangeAt Go.RowKit Go.Joins Go.Deep

theorem cells21 {cs : Array Value} (h : cs.size = 21) : ∃ c0 c1 c2 c3 c4 c5 c6 c7 c8 c9 c10 c11 c12 c13 c14 c15 c16 c17 c18 c19 c20, cs = #[c0, c1, c2, c3, c4, c5, c6, c7, c8, c9, c10, c11, c12, c13, c14, c15, c16, c17, c18, c19, c20] := by
  obtain ⟨l⟩ := cs
  match l, h with
  | [c0, c1, c2, c3, c4, c5, c6, c7, c8, c9, c10, c11, c12, c13, c14, c15, c16, c17, c18, c19, c20], _ => exact ⟨c0, c1, c2, c3, c4, c5, c6, c7, c8, c9, c10, c11, c12, c13, c14, c15, c16, c17, c18, c19, c20, rfl⟩
variable {H : Type} {enc : TypeId × Value → H} {W : World}
theorem txZ_range : ∀ (L : List ByteArray) (g : Nat → Nat), (∀ i x, L[i]? = some x → x.size ≤ g i) → txZ L ≤ ((List.range L.length).map g).sum
  | [], g, h => Nat.zero_le _
  | x :: r, g, h => by
    have h1 := txZ_range r (fun i => g (i + 1)) (fun i y hy => h (i + 1) y (by simpa using hy))
    have h0 := h 0 x rfl
    rw [List.length_cons, List.range_succ_eq_map, List.map_cons, List.sum_cons, List.map_map, txZ]
    have e2 : (List.map (g ∘ Nat.succ) (List.range r.length)) = List.map (fun i => g (i + 1)) (List.range r.length) := rfl
    rw [e2]
    omega
theorem tgZ_range : ∀ (L : List TgtT) (g : Nat → Nat), (∀ i x, L[i]? = some x → x.2.2.size + 3 ≤ g i) → tgZ L ≤ ((List.range L.length).map g).sum
  | [], g, h => Nat.zero_le _
  | x :: r, g, h => by
    have h1 := tgZ_range r (fun i => g (i + 1)) (fun i y hy => h (i + 1) y (by simpa using hy))
    have h0 := h 0 x rfl
    rw [List.length_cons, List.range_succ_eq_map, List.map_cons, List.sum_cons, List.map_map, tgZ]
    have e2 : (List.map (g ∘ Nat.succ) (List.range r.length)) = List.map (fun i => g (i + 1)) (List.range r.length) := rfl
    rw [e2]
    omega
set_option maxRecDepth 100000 in
/-- a slice of texts, with what they hold. -/
theorem open_txs {held : Bool} {fuel : Nat} {c : Value} {x : DataW H × List MemPlace} (h : DataW.trod enc Tryz.prog W 0 (fun _ => true) held fuel 22 [c] = some x) :
    ∃ (ad : Option Addr) (L : List ByteArray) (cap : Nat), c = .slice ad L.length cap ∧ TxM W ad L ∧ L.length + txZ L + 1 ≤ 2 * Rows.uptoBulk x.1 ∧ txZ L ≤ Rows.uptoBulk x.1 ∧ L.length + 1 ≤ Rows.uptoBulk x.1 := by
  rcases open_slice1 Tryz.underlying22 (by kernel_rfl) h with ⟨h1, h2⟩ | ⟨a, len, cap, m, n, V, D, Pl, hcs, -, hl, -, hm, hx, hi⟩
  · simp at h1
    subst h1
    refine ⟨none, [], 0, rfl, fun i f hf => by simp at hf, ?_, Nat.zero_le _, ?_⟩
    · have := bulk_pos x.1
      show 0 + txZ [] + 1 ≤ _
      rw [txZ]
      omega
    · exact bulk_pos x.1
  · simp at hcs
    subst hcs
    simp at hm
    obtain ⟨L, hL, hp⟩ := gather (α := ByteArray) (Q := fun i f => W.cell? (a.add i) = some (.string f) ∧ f.size ≤ Rows.uptoBulk (D i)) len fun i hlt => by
      obtain ⟨k0, t0⟩ := hi i (by omega)
      obtain ⟨s0, e0, hd, -⟩ := DataW.trod_string Tryz.underlying9 t0
      simp at e0
      rw [e0] at k0
      refine ⟨s0, k0, ?_⟩
      have e2 : s0.data.toList.length = s0.size := Array.length_toList
      have hd1 : D i = .lit (.string s0.data.toList) := congrArg Prod.fst hd
      rw [hd1]
      simp only [Rows.uptoBulk]
      omega
    have h3 : txZ L ≤ Rows.uptoBulk x.1 ∧ L.length + 1 ≤ Rows.uptoBulk x.1 := by
      have h1 := txZ_range L (fun i => Rows.uptoBulk (D i)) (fun i x hx => (hp i x hx).2)
      have h2 := bulkAll_sum D (fun i => Rows.uptoBulk (D i)) (fun i => Nat.le_refl _) (List.range len)
      have h4 := bulkAll_ge D bulk_pos (List.range len)
      rw [List.length_range] at h4
      rw [hx]
      rw [hL] at h1 ⊢
      rw [Rows.uptoBulk]
      omega
    refine ⟨some a, L, cap, by rw [hL], fun i f hf => ?_, by omega, h3.1, h3.2⟩
    obtain ⟨k0, -⟩ := hp i f hf
    have h0 : 0 < L.length := by
      have := (List.getElem?_eq_some_iff.1 hf).1; omega
    obtain ⟨q0, -⟩ := hp 0 L[0] (List.getElem?_eq_getElem h0)
    have ha : a = ⟨a.block, a.off, none⟩ := by
      have := spot_none (w := W) (a := a.add 0) q0
      obtain ⟨b, o, s⟩ := a
      cases s with
      | none => rfl
      | some s => unfold Addr.add at this; simp at this
    generalize a.block = b at ha
    generalize a.off = o at ha
    subst ha
    rw [add_lit] at k0
    exact ⟨b, o, rfl, k0⟩
set_option maxRecDepth 100000 in
/-- a slice of targets, with what they hold. -/
theorem open_tgs {held : Bool} {fuel : Nat} {c : Value} {x : DataW H × List MemPlace} (h : DataW.trod enc Tryz.prog W 0 (fun _ => true) held fuel 26 [c] = some x) :
    ∃ (ad : Option Addr) (L : List TgtT) (cap : Nat), c = .slice ad L.length cap ∧ TgM W ad L ∧ 3 * L.length ≤ Rows.uptoBulk x.1 ∧ tgZ L ≤ Rows.uptoBulk x.1 ∧ ∀ t ∈ L, I64 t.1 ∧ I64 t.2.1 := by
  rcases open_slice_fields Tryz.underlying26 Tryz.underlying65 (by kernel_rfl) (by kernel_rfl) h with ⟨h1, h2⟩ | ⟨a, len, cap, m, D, Pl, hcs, -, hl, -, hm, hx, hi⟩
  · simp at h1
    subst h1
    exact ⟨none, [], 0, rfl, fun i f hf => by simp at hf, Nat.zero_le _, Nat.zero_le _, fun t ht => (List.not_mem_nil ht).elim⟩
  · simp at hcs
    subst hcs
    simp at hm
    obtain ⟨L, hL, hp⟩ := gather (α := TgtT) (Q := fun i f => (W.cell? (a.add (i * 3 + 0)) = some (.int .i64 f.1) ∧ W.cell? (a.add (i * 3 + 1)) = some (.int .i64 f.2.1) ∧ W.cell? (a.add (i * 3 + 2)) = some (.string f.2.2)) ∧ f.2.2.size + 3 ≤ Rows.uptoBulk (D i) ∧ I64 f.1 ∧ I64 f.2.1) len fun i hlt => by
      obtain ⟨ys, n, hD, -, hlen, hf⟩ := hi i (by omega)
      obtain ⟨v0, y0, k0, q0, t0⟩ := hf 0 _ rfl
      obtain ⟨v1, y1, k1, q1, t1⟩ := hf 1 _ rfl
      obtain ⟨v2, y2, k2, q2, t2⟩ := hf 2 _ rfl
      obtain ⟨n0, e0, rfl, w0⟩ := DataW.trod_int Tryz.underlying3 t0
      obtain ⟨n1, e1, rfl, w1⟩ := DataW.trod_int Tryz.underlying3 t1
      obtain ⟨s2, e2, rfl, -⟩ := DataW.trod_string Tryz.underlying9 t2
      simp at e0 e1 e2
      subst e0
      subst e1
      subst e2
      refine ⟨(n0, n1, s2), ⟨k0, k1, k2⟩, ?_, bounds_i64 w0, bounds_i64 w1⟩
      have e3 : s2.data.toList.length = s2.size := Array.length_toList
      match ys, hlen, q0, q1, q2, hD with
      | [ya, yb, yc], _, q0, q1, q2, hD =>
        simp at q0 q1 q2
        subst q0
        subst q1
        subst q2
        rw [hD]
        simp only [List.map_cons, List.map_nil, Rows.uptoBulk, Rows.uptoBulkAll]
        omega
    have h1 := tgZ_range L (fun i => Rows.uptoBulk (D i)) (fun i x hx => (hp i x hx).2.1)
    have h2 := bulkAll_sum D (fun i => Rows.uptoBulk (D i)) (fun i => Nat.le_refl _) (List.range len)
    have hz : ∀ L : List TgtT, 3 * L.length ≤ tgZ L := by
      intro L
      induction L with
      | nil => exact Nat.zero_le _
      | cons x r ih => rw [List.length_cons, tgZ]; omega
    have hzL := hz L
    rw [hL] at h1
    have hbx : tgZ L ≤ Rows.uptoBulk x.1 := by rw [hx, Rows.uptoBulk]; omega
    refine ⟨some a, L, cap, by rw [hL], fun i f hf => ?_, by omega, hbx, fun t ht => ?_⟩
    · obtain ⟨⟨k0, k1, k2⟩, -⟩ := hp i f hf
      have h0 : 0 < L.length := by
        have := (List.getElem?_eq_some_iff.1 hf).1; omega
      obtain ⟨⟨q0, -⟩, -⟩ := hp 0 L[0] (List.getElem?_eq_getElem h0)
      have ha : a = ⟨a.block, a.off, none⟩ := by
        have := spot_none (w := W) (a := a.add (0 * 3 + 0)) q0
        obtain ⟨b, o, s⟩ := a
        cases s with
        | none => rfl
        | some s => unfold Addr.add at this; simp at this
      generalize a.block = b at ha
      generalize a.off = o at ha
      subst ha
      rw [add_lit] at k0 k1 k2
      exact ⟨b, o, rfl, k0, k1, k2⟩
    · obtain ⟨i, hi2, rfl⟩ := List.getElem_of_mem ht
      exact (hp i L[i] (List.getElem?_eq_getElem hi2)).2.2
set_option maxRecDepth 100000 in
/-- a set. -/
theorem open_set {held : Bool} {fuel : Nat} {c0 c1 : Value} {x : DataW H × List MemPlace} (h : DataW.trod enc Tryz.prog W 0 (fun _ => true) held fuel 24 [c0, c1] = some x) :
    ∃ (ad : Option Addr) (L : List ByteArray) (cap : Nat) (n : Int), c0 = .slice ad L.length cap ∧ c1 = .int .i64 n ∧ TxM W ad L ∧ txZ L + 2 ≤ Rows.uptoBulk x.1 ∧ L.length + 2 ≤ Rows.uptoBulk x.1 ∧ I64 n := by
  obtain ⟨ys, n, -, hx, -, hlen, hf⟩ := DataW.trod_struct Tryz.underlying24 h
  have h0 := hf 0 _ rfl
  have h1 := hf 1 _ rfl
  match ys, hlen, hx, h0, h1 with
  | [ya, yb], _, hx, h0, h1 =>
    have t0 : DataW.trod enc Tryz.prog W 0 (fun _ => true) held n 22 [c0] = some ya := h0
    have t1 : DataW.trod enc Tryz.prog W 0 (fun _ => true) held n 3 [c1] = some yb := h1
    obtain ⟨ad, L, cap, rfl, hT, -, b1, b2⟩ := open_txs t0
    obtain ⟨m, e1, rfl, w1⟩ := DataW.trod_int Tryz.underlying3 t1
    simp at e1
    subst e1
    refine ⟨ad, L, cap, m, rfl, rfl, hT, ?_, ?_, bounds_i64 w1⟩
    · rw [hx]
      simp only [List.map_cons, List.map_nil, Rows.uptoBulk, Rows.uptoBulkAll]
      omega
    · rw [hx]
      simp only [List.map_cons, List.map_nil, Rows.uptoBulk, Rows.uptoBulkAll]
      omega
set_option maxRecDepth 100000 in
/-- a checkpoint. -/
theorem open_cp {held : Bool} {fuel : Nat} {c0 c1 c2 : Value} {x : DataW H × List MemPlace} (h : DataW.trod enc Tryz.prog W 0 (fun _ => true) held fuel 28 [c0, c1, c2] = some x) :
    ∃ (o : ByteArray) (n : Int) (r : ByteArray), c0 = .string o ∧ c1 = .int .i64 n ∧ c2 = .string r ∧ o.size + r.size ≤ Rows.uptoBulk x.1 ∧ I64 n := by
  obtain ⟨ys, n, -, hx, -, hlen, hf⟩ := DataW.trod_struct Tryz.underlying28 h
  have h0 := hf 0 _ rfl
  have h1 := hf 1 _ rfl
  have h2 := hf 2 _ rfl
  match ys, hlen, hx, h0, h1, h2 with
  | [ya, yb, yc], _, hx, h0, h1, h2 =>
    have t0 : DataW.trod enc Tryz.prog W 0 (fun _ => true) held n 9 [c0] = some ya := h0
    have t1 : DataW.trod enc Tryz.prog W 0 (fun _ => true) held n 3 [c1] = some yb := h1
    have t2 : DataW.trod enc Tryz.prog W 0 (fun _ => true) held n 9 [c2] = some yc := h2
    obtain ⟨s0, e0, rfl, -⟩ := DataW.trod_string Tryz.underlying9 t0
    obtain ⟨m, e1, rfl, w1⟩ := DataW.trod_int Tryz.underlying3 t1
    obtain ⟨s2, e2, rfl, -⟩ := DataW.trod_string Tryz.underlying9 t2
    simp at e0 e1 e2
    subst e0
    subst e1
    subst e2
    have e3 : s0.data.toList.length = s0.size := Array.length_toList
    have e4 : s2.data.toList.length = s2.size := Array.length_toList
    refine ⟨s0, m, s2, rfl, rfl, rfl, ?_, bounds_i64 w1⟩
    rw [hx]
    simp only [List.map_cons, List.map_nil, Rows.uptoBulk, Rows.uptoBulkAll]
    omega
def at5 {α : Type} (a b c d e f : α) : Nat → α | 0 => a | 1 => b | 2 => c | 3 => d | 4 => e | _ => f
theorem cellsDoc : Tryz.prog.cellsOf 30 = 21 := by kernel_rfl
set_option maxRecDepth 100000 in
set_option maxHeartbeats 2000000 in
/-- a document. -/
theorem open_doc {r : Reach} {b0 : Nat} {v : Value} {d : DataW H} {pl : List MemPlace} (hv : Value.okWide Tryz.prog W r b0 30 v) (h : DataW.Trod enc Tryz.prog W 0 (fun _ => true) true 30 v d pl) (hb : Rows.uptoBulk d ≤ 1048576) :
    ∃ (p : PD) (dv : DV), v = docV dv ∧ DocM W dv p ∧ EFit p := by
  obtain ⟨cs, rfl, hsz⟩ := okWide_struct Tryz.underlying30 hv
  obtain ⟨c0, c1, c2, c3, c4, c5, c6, c7, c8, c9, c10, c11, c12, c13, c14, c15, c16, c17, c18, c19, c20, rfl⟩ := cells21 (hsz.trans cellsDoc)
  obtain ⟨fuel, h⟩ := h
  obtain ⟨ys, n, -, hx, -, hlen, hf⟩ := DataW.trod_struct Tryz.underlying30 h
  have h0 := hf 0 _ rfl
  have h1 := hf 1 _ rfl
  have h2 := hf 2 _ rfl
  have h3 := hf 3 _ rfl
  have h4 := hf 4 _ rfl
  have h5 := hf 5 _ rfl
  have h6 := hf 6 _ rfl
  have h7 := hf 7 _ rfl
  have h8 := hf 8 _ rfl
  have h9 := hf 9 _ rfl
  have h10 := hf 10 _ rfl
  clear hf h
  match ys, hlen, hx, h0, h1, h2, h3, h4, h5, h6, h7, h8, h9, h10 with
  | [y0, y1, y2, y3, y4, y5, y6, y7, y8, y9, y10], _, hx, h0, h1, h2, h3, h4, h5, h6, h7, h8, h9, h10 =>
    have t0 : DataW.trod enc Tryz.prog W 0 (fun _ => true) true n 3 [c0] = some y0 := h0
    have t1 : DataW.trod enc Tryz.prog W 0 (fun _ => true) true n 3 [c1] = some y1 := h1
    have t2 : DataW.trod enc Tryz.prog W 0 (fun _ => true) true n 3 [c2] = some y2 := h2
    have t3 : DataW.trod enc Tryz.prog W 0 (fun _ => true) true n 25 [c3, c4, c5, c6, c7, c8, c9, c10] = some y3 := h3
    have t4 : DataW.trod enc Tryz.prog W 0 (fun _ => true) true n 24 [c11, c12] = some y4 := h4
    have t5 : DataW.trod enc Tryz.prog W 0 (fun _ => true) true n 9 [c13] = some y5 := h5
    have t6 : DataW.trod enc Tryz.prog W 0 (fun _ => true) true n 9 [c14] = some y6 := h6
    have t7 : DataW.trod enc Tryz.prog W 0 (fun _ => true) true n 26 [c15] = some y7 := h7
    have t8 : DataW.trod enc Tryz.prog W 0 (fun _ => true) true n 28 [c16, c17, c18] = some y8 := h8
    have t9 : DataW.trod enc Tryz.prog W 0 (fun _ => true) true n 3 [c19] = some y9 := h9
    have t10 : DataW.trod enc Tryz.prog W 0 (fun _ => true) true n 9 [c20] = some y10 := h10
    clear h0 h1 h2 h3 h4 h5 h6 h7 h8 h9 h10
    have hd : d = .agg [y0.1, y1.1, y2.1, y3.1, y4.1, y5.1, y6.1, y7.1, y8.1, y9.1, y10.1] := congrArg Prod.fst hx
    rw [hd] at hb
    simp only [Rows.uptoBulk, Rows.uptoBulkAll] at hb
    clear hx hd
    obtain ⟨kd, e0, rfl, w0⟩ := DataW.trod_int Tryz.underlying3 t0
    obtain ⟨ve, e1, rfl, w1⟩ := DataW.trod_int Tryz.underlying3 t1
    obtain ⟨ex, e2, rfl, w2⟩ := DataW.trod_int Tryz.underlying3 t2
    obtain ⟨lg, e5, rfl, -⟩ := DataW.trod_string Tryz.underlying9 t5
    obtain ⟨og, e6, rfl, -⟩ := DataW.trod_string Tryz.underlying9 t6
    obtain ⟨of, e9, rfl, w9⟩ := DataW.trod_int Tryz.underlying3 t9
    obtain ⟨hs, e10, rfl, -⟩ := DataW.trod_string Tryz.underlying9 t10
    obtain ⟨zs, m, -, hz, -, hzl, hzi⟩ := DataW.trod_array Tryz.underlying25 t3
    have z0 := hzi 0 (by decide)
    have z1 := hzi 1 (by decide)
    have z2 := hzi 2 (by decide)
    have z3 := hzi 3 (by decide)
    have cSet : Tryz.prog.cellsOf 24 = 2 := by kernel_rfl
    rw [cSet] at z0 z1 z2 z3
    match zs, hzl, hz, z0, z1, z2, z3 with
    | [x0, x1, x2, x3], _, hz, z0, z1, z2, z3 =>
      obtain ⟨a0, L0, q0, m0, rfl, rfl, T0, b0, l0, i0⟩ := open_set (show DataW.trod enc Tryz.prog W 0 (fun _ => true) true m 24 [c3, c4] = some x0 from z0)
      obtain ⟨a1, L1, q1, m1, rfl, rfl, T1, b1, l1, i1⟩ := open_set (show DataW.trod enc Tryz.prog W 0 (fun _ => true) true m 24 [c5, c6] = some x1 from z1)
      obtain ⟨a2, L2, q2, m2, rfl, rfl, T2, b2, l2, i2⟩ := open_set (show DataW.trod enc Tryz.prog W 0 (fun _ => true) true m 24 [c7, c8] = some x2 from z2)
      obtain ⟨a3, L3, q3, m3, rfl, rfl, T3, b3, l3, i3⟩ := open_set (show DataW.trod enc Tryz.prog W 0 (fun _ => true) true m 24 [c9, c10] = some x3 from z3)
      obtain ⟨a4, L4, q4, m4, rfl, rfl, T4, b4, l4, i4⟩ := open_set t4
      obtain ⟨a5, TL, q5, rfl, hT, tb, tz, ti⟩ := open_tgs t7
      obtain ⟨pO, pS, pR, rfl, rfl, rfl, pb, pi⟩ := open_cp t8
      have hy3 : y3.1 = .agg [x0.1, x1.1, x2.1, x3.1] := congrArg Prod.fst hz
      rw [hy3] at hb
      simp only [Rows.uptoBulk, Rows.uptoBulkAll] at hb
      simp at e0 e1 e2 e5 e6 e9 e10
      subst e0 e1 e2 e5 e6 e9 e10
      have g1 : lg.data.toList.length = lg.size := Array.length_toList
      have g2 : og.data.toList.length = og.size := Array.length_toList
      have g3 : hs.data.toList.length = hs.size := Array.length_toList
      refine ⟨⟨kd, ve, ex, (L0, m0), (L1, m1), (L2, m2), (L3, m3), (L4, m4), lg, og, TL, pO, pS, pR, of, hs⟩, _, rfl, ⟨at5 a0 a1 a2 a3 a4 a5, at5 q0 q1 q2 q3 q4 q5, rfl, ?_, hT⟩, ?_⟩
      · intro k S hS
        have hk : k < 5 := (List.getElem?_eq_some_iff.1 hS).1
        match k, hk with
        | 0, _ => obtain rfl := Option.some.inj (show some (L0, m0) = some S from hS); exact T0
        | 1, _ => obtain rfl := Option.some.inj (show some (L1, m1) = some S from hS); exact T1
        | 2, _ => obtain rfl := Option.some.inj (show some (L2, m2) = some S from hS); exact T2
        | 3, _ => obtain rfl := Option.some.inj (show some (L3, m3) = some S from hS); exact T3
        | 4, _ => obtain rfl := Option.some.inj (show some (L4, m4) = some S from hS); exact T4
      · have hS : ∀ S ∈ [(L0, m0), (L1, m1), (L2, m2), (L3, m3), (L4, m4)], S.1.length ≤ 100000000 ∧ txZ S.1 ≤ 100000000 ∧ I64 S.2 := by
          intro S hS
          simp only [List.mem_cons, List.not_mem_nil, or_false] at hS
          rcases hS with rfl | rfl | rfl | rfl | rfl
          · exact ⟨by dsimp only; omega, by dsimp only; omega, i0⟩
          · exact ⟨by dsimp only; omega, by dsimp only; omega, i1⟩
          · exact ⟨by dsimp only; omega, by dsimp only; omega, i2⟩
          · exact ⟨by dsimp only; omega, by dsimp only; omega, i3⟩
          · exact ⟨by dsimp only; omega, by dsimp only; omega, i4⟩
        refine ⟨⟨by dsimp only; omega, by dsimp only; omega, by dsimp only; omega, by dsimp only; omega, fun S h => (hS S h).1, by dsimp only; omega⟩, by dsimp only; omega, bounds_i64 w1, bounds_i64 w2, bounds_i64 w0, bounds_i64 w9, pi, hS, by dsimp only; omega, by dsimp only; omega, ti⟩
set_option maxRecDepth 100000 in
/-- a number of two bytes. -/
theorem open_u16 {r : Reach} {b0 : Nat} {v : Value} {d : DataW H} {p : List MemPlace} (h : DataW.Trod enc Tryz.prog W 0 (fun _ => true) true 31 v d p) (hv : Value.okWide Tryz.prog W r b0 31 v) : ∃ n : Nat, v = .int .u16 n ∧ n < 65536 := by
  obtain ⟨k, rfl⟩ := okWide_int Tryz.underlying31 hv
  obtain ⟨fuel, h⟩ := h
  obtain ⟨n, e0, -, w0⟩ := DataW.trod_int Tryz.underlying31 h
  simp [Value.cells] at e0
  subst e0
  have hb := bounds_u16 w0
  exact ⟨k.toNat, by rw [Int.toNat_of_nonneg hb.1], by omega⟩
end Go.Proofs.YtmejjphliaiamaaGreatDoor
