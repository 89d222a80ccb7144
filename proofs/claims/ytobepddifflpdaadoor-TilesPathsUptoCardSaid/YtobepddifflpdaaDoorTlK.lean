import Derived.Test.YtobepddifflpdaaDoorTlJ
import Derived.Test.YtobepddifflpdaaDoorQtW
set_option linter.unusedVariables false
namespace Go.Proofs.YtobepddifflpdaaDoor
open Go Go.RowKit Go.Lib Go.Sort Go.Maps Go.WideMaps

/-! a source of files, whatever it is -/
structure Src where
  σ : Type
  T : TypeId
  x : Value
  fn : FuncId
  I : World → σ → Prop
  R : σ → Nat → Prop
  S : σ → Nat → Prop
  log : σ → List ByteArray
  ans : ByteArray → ByteArray × Int
  sub : ∀ s k, S s k → R s k
  lt : ∀ w s, I w s → ∀ k, R s k → k < w.heap.size
  gs : ∀ w s, I w s → ∀ k, S s k → nG ≤ k
  kp : ∀ w w' s (U : Nat → Prop), I w s → Kp U w w' → (∀ k, R s k → ¬ U k) → I w' s
  small : ∀ p, p.size ≤ 1000000 → (ans p).1.size ≤ 9223372036854775807
  meth : ∀ w, (method 311 T x "File").run Tryd.prog w = .ok (fn, x) w
  ent : ∀ args w, (callFunc fn args).run Tryd.prog w = .ok (.enter fn args) w
  call : ∀ w s p, I w s → Tabs w → p.size ≤ 1000000 → (log s).length ≤ 800000000 →
    Calls Tryd.prog fn #[x, .string p] w fun e w' => e = .returned (.tuple #[.string (ans p).1, .int .i64 (ans p).2]) ∧ ∃ s', I w' s' ∧ log s' = log s ++ [p] ∧ (∀ k, R s' k → R s k ∨ w.heap.size ≤ k) ∧ (∀ k, S s' k → S s k ∨ w.heap.size ≤ k) ∧ Kp (S s) w w'

/-- a tile's text as it must be. -/
def Good (Z : Src) (l i x : Nat) (t : ByteArray) : Prop := Z.ans (pathT l i x) = (t, 0) ∧ t.size = 32 * x

/-- a reader of n leaves: its cells in rb, its map in kb; e: its error; s: how the source stands. -/
structure Rd (Z : Src) (rb kb n : Nat) (w : World) (e : Int) (s : Z.σ) : Prop where
  blk : w.heap[rb]? = some (.cells #[.iface Z.T Z.x, .int .i64 n, .int .i64 e, .map (some kb)] 90 (0, 0))
  src : Z.I w s
  nr : ¬ Z.R s rb
  nk : ¬ Z.R s kb
  gr : nG ≤ rb
  gk : nG ≤ kb
  map : ∃ m D, OwnsK w kb m D ∧ m ≤ (Z.log s).length ∧ ∀ l i x t, l ≤ 1099511627776 → i ≤ 1099511627776 → x ≤ 1099511627776 → kget D l i x = some t → Good Z l i x t
  tabs : Tabs w
  nle : n ≤ 1024

theorem Rd.lt {Z : Src} {rb kb n : Nat} {w : World} {e : Int} {s : Z.σ} (h : Rd Z rb kb n w e s) : rb < w.heap.size ∧ kb < w.heap.size := by
  obtain ⟨m, D, hm, _⟩ := h.map
  exact ⟨(Array.getElem?_eq_some_iff.1 h.blk).1, hm.lt⟩
theorem Rd.kp {Z : Src} {rb kb n : Nat} {w w' : World} {e : Int} {s : Z.σ} {U : Nat → Prop} (h : Rd Z rb kb n w e s) (k : Kp U w w') (h1 : ¬ U rb) (h2 : ¬ U kb) (h3 : ∀ i, Z.R s i → ¬ U i) (h4 : ∀ i, U i → nG ≤ i) : Rd Z rb kb n w' e s := by
  obtain ⟨m, D, hm, r⟩ := h.map
  exact ⟨blk_kp h.blk k h1, Z.kp w w' s U h.src k h3, h.nr, h.nk, h.gr, h.gk, ⟨m, D, hm.kept (k.block kb hm.lt h2), r⟩, h.tabs.kp k h4, h.nle⟩
theorem Rd.below {Z : Src} {rb kb n : Nat} {w w' : World} {e : Int} {s : Z.σ} (h : Rd Z rb kb n w e s) (k : Below w.heap.size w w') : Rd Z rb kb n w' e s :=
  h.kp (U := fun _ => False) (Kp.of_below k) (fun h => h) (fun h => h) (fun _ _ h => h) (fun _ h => h.elim)

/-- which blocks a call of the reader may write. -/
def RdS (Z : Src) (rb kb : Nat) (s : Z.σ) (k : Nat) : Prop := k = rb ∨ k = kb ∨ Z.S s k

def BadP (Z : Src) (l i x : Nat) (e : Int) : Prop := e ≠ 0 ∧ ((Z.ans (pathT l i x)).2 = e ∨ (Z.ans (pathT l i x)).2 = 0 ∧ (Z.ans (pathT l i x)).1.size ≠ 32 * x ∧ e = 3)

/-- behind a call of tile. -/
def TilePost (Z : Src) (rb kb n l i x : Nat) (w : World) (s : Z.σ) (en : Ending) (w' : World) : Prop :=
  ∃ t e' s', en = .returned (.string t) ∧ Rd Z rb kb n w' e' s' ∧ Kp (RdS Z rb kb s) w w' ∧ (∀ k, Z.R s' k → Z.R s k ∨ w.heap.size ≤ k) ∧ (∀ k, Z.S s' k → Z.S s k ∨ w.heap.size ≤ k) ∧
    ((e' = 0 ∧ Good Z l i x t ∧ (Z.log s' = Z.log s ∨ Z.log s' = Z.log s ++ [pathT l i x])) ∨ (BadP Z l i x e' ∧ t = ⟨#[]⟩ ∧ Z.log s' = Z.log s ++ [pathT l i x]))

theorem path_le {l i x : Nat} (hf : fitT l i x = true) : (pathT l i x).size ≤ 1000000 := by
  have hbd := fit_all hf
  have h1 : ∀ n : Nat, n ≤ 1099511627776 → (itoaB n).size ≤ 14 := fun n hn => by
    unfold itoaB Lib.itoa
    rw [if_neg (by omega)]
    exact dec_len_lt 13 _ (by simp; omega)
  have a1 := h1 l (by omega)
  have a2 := h1 i (by omega)
  have a3 := h1 x (by omega)
  unfold pathT
  rw [if_pos hf]
  split
  · simp only [ByteArray.size_append]
    have e1 : sTile.size = 5 := rfl
    have e2 : sSlash.size = 1 := rfl
    have e3 : sP.size = 3 := rfl
    omega
  · simp only [ByteArray.size_append]
    have e1 : sTile.size = 5 := rfl
    have e2 : sSlash.size = 1 := rfl
    omega

set_option maxRecDepth 100000 in
set_option maxHeartbeats 1000000 in
theorem tile_any (Z : Src) (rb kb n l i x : Nat) (w : World) (s : Z.σ) (hR : Rd Z rb kb n w 0 s) (hf : fitT l i x = true) (hlog : (Z.log s).length ≤ 800000000) :
    Calls Tryd.prog 88 #[.pointer (some ⟨rb, 0, none⟩), .agg #[.int .i64 l, .int .i64 i, .int .i64 x]] w (TilePost Z rb kb n l i x w s) := by
  obtain ⟨m, D, hm, hml, hD⟩ := hR.map
  have hbd := fit_all hf
  have hB : ∀ w', Below w.heap.size w w' → OwnsK w' kb m D ∧ w'.cell? ⟨rb, 3, none⟩ = some (.map (some kb)) := fun w' hb =>
    ⟨hm.kept (hb.block kb hm.lt), (hb.cell (p := ⟨rb, 3, none⟩) hR.lt.1).trans (cell_of_blk hR.blk 3 rfl)⟩
  obtain ⟨w1, hw1⟩ : ∃ w1, w1 = w.alloc (.cells #[.int .i64 l, .int .i64 i, .int .i64 x] 23) := ⟨_, rfl⟩
  have hb1 : Below w.heap.size w w1 := by rw [hw1]; exact (Below.refl _ _).alloc (Nat.le_refl _) _
  have ht : w1.heap[w.heap.size]? = some (.cells #[.int .i64 l, .int .i64 i, .int .i64 x] 23 (0, 0)) := by rw [hw1]; exact blk_new w _
  have a0 : w1.drew.cell? ⟨w.heap.size, 0, none⟩ = some (.int .i64 l) := cell_of_blk (w := w1.drew) ht 0 rfl
  have a1 : w1.drew.cell? ⟨w.heap.size, 1, none⟩ = some (.int .i64 i) := cell_of_blk (w := w1.drew) ht 1 rfl
  have a2 : w1.drew.cell? ⟨w.heap.size, 2, none⟩ = some (.int .i64 x) := cell_of_blk (w := w1.drew) ht 2 rfl
  have b0 := fun o => cell_of_blk (w := (w1.alloc o).drew) (blk_alloc ht o) 0 rfl
  have b1 := fun o => cell_of_blk (w := (w1.alloc o).drew) (blk_alloc ht o) 1 rfl
  have b2 := fun o => cell_of_blk (w := (w1.alloc o).drew) (blk_alloc ht o) 2 rfl
  have m1 := (hB w1.drew hb1.drew).2
  have m2 := fun o => (hB (w1.alloc o).drew (hb1.alloc hb1.size o).drew).2
  have k1 := look_kept w1.drew kb m D l i x (by omega) (by omega) (by omega) (hB w1.drew hb1.drew).1
  have k2 := fun o => look_kept (w1.alloc o).drew kb m D l i x (by omega) (by omega) (by omega) (hB (w1.alloc o).drew (hb1.alloc hb1.size o).drew).1
  have hsz1 : w1.heap.size = w.heap.size + 1 := by rw [hw1, size_alloc]
  unfold tl at k1 k2
  have HR := Lib.hid hR
  have HM := Lib.hid hm
  have HD := Lib.hid hD
  have HW1 := Lib.hid hw1
  have HB1 := Lib.hid hb1
  have HT := Lib.hid ht
  clear hR hm hD hB hw1 hb1 ht
  cases hk : kget D l i x with
  | some t =>
    have HK := Lib.hid hk
    rw [hk] at k1 k2
    clear hk
    go_enter Tryd.func88, Tryd.ntmps88
    go_wp2_with fail
    rw [← HW1.out]
    go_region
    all_goals
      go_wp2_with fail
      go_ret
      have hb2 : ∀ o, Below w.heap.size w (w1.alloc o).drew := fun o => (HB1.out.alloc HB1.out.size o).drew
      exact ⟨t, 0, s, rfl, HR.out.below (hb2 _), Kp.of_below (hb2 _), fun _ h => .inl h, fun _ h => .inl h, .inl ⟨rfl, HD.out l i x t (by omega) (by omega) (by omega) HK.out, .inl rfl⟩⟩
  | none =>
    rw [hk] at k1 k2
    clear hk
    go_enter Tryd.func88, Tryd.ntmps88
    go_wp2_with fail
    rw [← HW1.out]
    go_region
    all_goals
      go_wp2_with fail
      clear a0 a1 a2 b0 b1 b2 m1 m2 k1 k2
      generalize hw2 : (w1.alloc (Obj.cells #[Value.string ⟨#[]⟩] _)).drew = w2
      have hb2 : Below w.heap.size w w2 := by rw [← hw2]; exact (HB1.out.alloc HB1.out.size _).drew
      have ht2 : w2.heap[w.heap.size]? = some (.cells #[.int .i64 l, .int .i64 i, .int .i64 x] 23 (0, 0)) := by rw [← hw2]; exact blk_alloc HT.out _
      have hR2 := HR.out.below hb2
      have c0 := cell_regrown (cell_of_blk hR2.blk 0 rfl)
      have a0 := cell_regrown (cell_of_blk ht2 0 rfl)
      have a1 := cell_regrown (cell_of_blk ht2 1 rfl)
      have a2 := cell_regrown (cell_of_blk ht2 2 rfl)
      have cP : ∀ d os, Calls Tryd.prog 31 #[.agg #[.int .i64 l, .int .i64 i, .int .i64 x]] (grow (redrawn w2 d) os) fun e w'' => e = .returned (.string (pathT l i x)) ∧ ∃ p : Regrown, w'' = grow (redrawn w2 p.d) p.os :=
        fun d os => Calls.regrown_of (path_any l i x _ (fun _ => (hR2.tabs.itoa l (by omega) (by omega)).later (below_regrown w2 d os)) (fun _ => (hR2.tabs.itoa i (by omega) (by omega)).later (below_regrown w2 d os)) (fun _ => (hR2.tabs.itoa x (by omega) (by omega)).later (below_regrown w2 d os)))
      have HR2 := Lib.hid hR2
      have HB2 := Lib.hid hb2
      have HT2 := Lib.hid ht2
      clear hw2 hb2 ht2 hR2
      refine wp_region_quiet_mid_below 8 (by kernel_rfl) (by kernel_rfl) (by kernel_rfl) ?_
      simp only [List.take_succ_cons, List.take_zero, List.drop_succ_cons, List.drop_zero]
      repeat quiet_step (with_reducible exact cP _ _)
      refine wpQuiet_nil ?_
      intro w3 hw3
      obtain ⟨⟨dq, osq⟩, hw''⟩ := hw3
      have hb3 : Below w2.heap.size w2 w3 := by rw [hw'']; exact below_regrown w2 dq osq
      have HR3 := Lib.hid (HR2.out.below hb3)
      have HB3 := Lib.hid (HB2.out.trans (hb3.mono HB2.out.size))
      have HT3 := Lib.hid (blk_later HT2.out hb3)
      clear hw'' hb3 cP a0 a1 a2 c0
      go_wp2_with fail
      rw [Z.meth]
      simp only [Result.andThen]
      rw [Z.ent]
      rw [Oper.upon_enter]
      refine (Z.call w3 s (pathT l i x) HR3.out.src HR3.out.tabs (path_le hf) hlog).mono ?_
      rintro e w4 ⟨rfl, s', hI', hlg, hR', hS', hk⟩
      have hlt := HR.out.lt
      have hsz3 := HB3.out.size
      have hnS : ¬ Z.S s w.heap.size := fun h => by have := Z.lt w s HR.out.src _ (Z.sub s _ h); omega
      have hT4 : w4.heap[w.heap.size]? = some (.cells #[.int .i64 l, .int .i64 i, .int .i64 x] 23 (0, 0)) := blk_kp HT3.out hk hnS
      have hb4 : w4.heap[rb]? = some (.cells #[.iface Z.T Z.x, .int .i64 n, .int .i64 0, .map (some kb)] 90 (0, 0)) := blk_kp HR3.out.blk hk (fun h => HR.out.nr (Z.sub s _ h))
      have hm4 : OwnsK w4 kb m D := (HM.out.kept (HB3.out.block kb hlt.2)).kept (hk.block kb (by omega) (fun h => HR.out.nk (Z.sub s _ h)))
      have k4 : Kp (RdS Z rb kb s) w w4 := (Kp.of_below HB3.out).trans (hk.mono fun k h => .inr (.inr h))
      have hnr : ¬ Z.R s' rb := fun h => (hR' rb h).elim HR.out.nr (fun h => by omega)
      have hnk : ¬ Z.R s' kb := fun h => (hR' kb h).elim HR.out.nk (fun h => by omega)
      have hT4' : Tabs w4 := HR3.out.tabs.kp hk (fun k h => Z.gs w s HR.out.src k h)
      have hR4 : ∀ k, Z.R s' k → Z.R s k ∨ w.heap.size ≤ k := fun k h => (hR' k h).imp (fun h => h) (fun h => by omega)
      have hS4 : ∀ k, Z.S s' k → Z.S s k ∨ w.heap.size ≤ k := fun k h => (hS' k h).imp (fun h => h) (fun h => by omega)
      have hnew : ∀ (e : Int) (w5 : World) m' D', w5.heap[rb]? = some (.cells #[.iface Z.T Z.x, .int .i64 n, .int .i64 e, .map (some kb)] 90 (0, 0)) → OwnsK w5 kb m' D' → m' ≤ (Z.log s').length →
          (∀ l i x t, l ≤ 1099511627776 → i ≤ 1099511627776 → x ≤ 1099511627776 → kget D' l i x = some t → Good Z l i x t) → Kp (fun k => k = rb ∨ k = kb) w4 w5 → Rd Z rb kb n w5 e s' ∧ Kp (RdS Z rb kb s) w w5 := by
        intro e w5 m' D' h1 h2 h3 h4 h5
        refine ⟨⟨h1, Z.kp w4 w5 s' _ hI' h5 (fun k g1 g2 => ?_), hnr, hnk, HR.out.gr, HR.out.gk, ⟨m', D', h2, h3, h4⟩, hT4'.kp h5 (fun k h => ?_), HR.out.nle⟩, k4.trans (h5.mono fun k h => h.elim .inl (fun h => .inr (.inl h)))⟩
        · rcases g2 with rfl | rfl
          · exact hnr g1
          · exact hnk g1
        · rcases h with rfl | rfl
          · exact HR.out.gr
          · exact HR.out.gk
      have hne : kb ≠ rb := by
        intro e
        obtain ⟨es, ck, hmb, _⟩ := hm4
        rw [e, hb4] at hmb
        cases hmb
      have HN := Lib.hid hnew
      have HS4 := Lib.hid hS4
      have HR4 := Lib.hid hR4
      have HL := Lib.hid hlg
      have HM4 := Lib.hid hm4
      have hsm := Z.small (pathT l i x) (path_le hf)
      obtain ⟨⟨t, er⟩, hans⟩ : ∃ a, a = Z.ans (pathT l i x) := ⟨_, rfl⟩
      rw [← hans] at hsm ⊢
      have HA := Lib.hid hans.symm
      have B4 := Lib.hid hb4
      have T4 := Lib.hid hT4
      have r0 := cell_of_blk hb4 2 rfl
      have f0 := free_of_blk hb4 2
      have c2 : w4.cell? ⟨w.heap.size, 2, none⟩ = some (.int .i64 x) := cell_of_blk hT4 2 rfl
      clear hnew hS4 hR4 hlg hans hb4 hT4 hm4 hI' hR' hS' hk k4 hnr hnk hT4' hnS
      by_cases her : er = 0
      · subst her
        by_cases hsz : (t.size : Int) = 32 * (x : Int)
        · have hgood : Good Z l i x t := ⟨HA.out, by omega⟩
          have HG := Lib.hid hgood
          clear hgood
          go_wp2_with fail
          have g3 := cell_regrown (cell_of_blk B4.out 3 rfl)
          have e0 := cell_regrown (cell_of_blk T4.out 0 rfl)
          have e1 := cell_regrown (cell_of_blk T4.out 1 rfl)
          have e2 := cell_regrown (cell_of_blk T4.out 2 rfl)
          refine wp_region_quiet_tail_below 7 (by kernel_rfl) (by kernel_rfl) ?_
          simp only [List.take_succ_cons, List.take_zero, List.drop_succ_cons, List.drop_zero]
          repeat quiet_step (fail)
          refine wpQuiet_nil ?_
          intro w5 hw5
          obtain ⟨⟨dq, osq⟩, hw''⟩ := hw5
          have hb5 : Below w4.heap.size w4 w5 := by rw [hw'']; exact below_regrown w4 dq osq
          have hm5 : OwnsK w5 kb m D := HM4.out.kept (hb5.block kb HM4.out.lt)
          have HM5 := Lib.hid hm5
          have HB5 := Lib.hid hb5
          have hmax : m < maxLen := by unfold maxLen; omega
          clear hw'' hb5 hm5 g3 e0 e1 e2
          go_wp2_with (first
            | (at_mapUpdate; refine wpList_mapUpdate_own _ rfl _ _ _ 88 rfl 23 _ keyedT Tryd.underlying88 txtR kb m D rfl HM5.out hmax _ _ _ rfl rfl (kT_nat l i x (by omega) (by omega) (by omega)) _ [] (txtR_mk t) ?_; intro w6 hown6 hgrow6)
            | fail)
          go_ret
          have hb6 : w6.heap[rb]? = some (.cells #[.iface Z.T Z.x, .int .i64 n, .int .i64 0, .map (some kb)] 90 (0, 0)) := by
            have h5 := blk_later B4.out HB5.out
            refine (hgrow6.block rb (Array.getElem?_eq_some_iff.1 h5).1 ?_).trans h5
            intro e
            injection e with e
            obtain ⟨es, ck, hmb, _⟩ := HM5.out
            rw [← e, h5] at hmb
            cases hmb
          have k6 : Kp (fun k => k = rb ∨ k = kb) w4 w6 := (Kp.of_below HB5.out).grown hgrow6 (fun k hk => .inl (.inr (Option.some.inj hk).symm))
          have hD6 : ∀ l' i' x' t', l' ≤ 1099511627776 → i' ≤ 1099511627776 → x' ≤ 1099511627776 → kget (D.put (kT l i x) (dT t)) l' i' x' = some t' → Good Z l' i' x' t' := by
            intro l' i' x' t' h1 h2 h3 h4
            rcases kget_put HM5.out.isMap (by omega) (by omega) (by omega) h1 h2 h3 t t' h4 with ⟨rfl, rfl, rfl, rfl⟩ | h5
            · exact HG.out
            · exact HD.out _ _ _ _ h1 h2 h3 h5
          have hR6 := HN.out 0 w6 (m + 1) (D.put (kT l i x) (dT t)) hb6 hown6 (by rw [HL.out, List.length_append]; simp; omega) hD6 k6
          exact ⟨t, 0, s', rfl, hR6.1, hR6.2, HR4.out, HS4.out, .inl ⟨rfl, HG.out, .inr HL.out⟩⟩
        · go_wp2_with fail
          go_ret
          have hb6 := blk_set (i := 2) B4.out (.int .i64 3)
          have hR6 := HN.out 3 _ m D hb6 (HM4.out.kept (Below.heap_setCell _ _ _ _ (fun e => hne e))) (by rw [HL.out, List.length_append]; omega) HD.out ((Kp.refl _ _).setCell (p := ⟨rb, 2, none⟩) (.inl (.inl rfl)) _)
          exact ⟨⟨#[]⟩, 3, s', rfl, hR6.1, hR6.2, HR4.out, HS4.out, .inr ⟨⟨by decide, .inr ⟨by rw [HA.out], by rw [HA.out]; show t.size ≠ _; omega, rfl⟩⟩, rfl, HL.out⟩⟩
      · go_wp2_with fail
        go_ret
        have hb6 := blk_set (i := 2) B4.out (.int .i64 er)
        have hR6 := HN.out er _ m D hb6 (HM4.out.kept (Below.heap_setCell _ _ _ _ (fun e => hne e))) (by rw [HL.out, List.length_append]; omega) HD.out ((Kp.refl _ _).setCell (p := ⟨rb, 2, none⟩) (.inl (.inl rfl)) _)
        exact ⟨⟨#[]⟩, er, s', rfl, hR6.1, hR6.2, HR4.out, HS4.out, .inr ⟨⟨her, .inl (by rw [HA.out])⟩, rfl, HL.out⟩⟩
end Go.Proofs.YtobepddifflpdaaDoor
