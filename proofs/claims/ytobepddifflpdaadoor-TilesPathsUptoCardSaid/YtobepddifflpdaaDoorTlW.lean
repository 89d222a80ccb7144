import Derived.Test.YtobepddifflpdaaDoorTlS
import Derived.Test.YtobepddifflpdaaDoorTlU
set_option linter.unusedVariables false
namespace Go.Proofs.YtobepddifflpdaaDoor
open Go Go.RowKit Go.Lib Go.Sort Go.Maps Go.WideMaps

theorem hash_of_own {w : World} {base n : Nat} {v : Value} (h : OwnS w base v ((List.range n).map leafK)) : HashS w v n leafK := by
  obtain ⟨ao, cap, hv, h1, h2, h3⟩ := OwnL.form h
  have hl : ((List.range n).map leafK).length = n := by simp
  rw [hl] at hv h1 h3
  refine ⟨ao, cap, hv, h1, h2, leafK_size, fun h0 => ?_⟩
  obtain ⟨g, rfl, _, _, hc⟩ := h3 h0
  refine ⟨g, rfl, fun j hj => ?_⟩
  rw [hc j (by omega)]
  have : ((List.range n).map leafK).flatMap (fun s => [Value.string s]) = ((List.range n).map leafK).map Value.string := by
    induction ((List.range n).map leafK) with
    | nil => rfl
    | cons x l ih => simp [List.flatMap_cons, ih]
  rw [this, List.getElem?_map, List.getElem?_map, List.getElem?_range hj]
  rfl

/-- a new source, nothing gone, nothing too long. -/
theorem files_new {w w1 : World} {n : Nat} {v : Value} (h : OwnS w1 w.heap.size v ((List.range n).map leafK)) (hg : nG ≤ w.heap.size) (hsz : w.heap.size ≤ w1.heap.size) (gone long : ByteArray) :
    FilesAt (w1.alloc (.cells #[v, .string gone, .string long, .slice none 0 0] 42)) w1.heap.size v n leafK gone long (.slice none 0 0) [] :=
  ⟨blk_new _ _, hash_of_own (OwnL.alloc h _), ownL_nil _ _, (fun g hg => by cases hg), fun g hg => ⟨by rw [size_alloc]; have := (OwnL.lt h g hg).2; omega, by have := (OwnL.lt h g hg).2; omega⟩, by omega⟩

theorem allT_six : allT 6 = [(0, 0, 4), (0, 1, 2), (1, 0, 1)] := by decide
theorem path_six : pathT 0 1 2 = ⟨#[116, 105, 108, 101, 47, 48, 47, 49, 46, 112, 47, 50]⟩ := by decide +kernel

set_option maxRecDepth 100000 in
theorem eq_tile (w : World) : (binOp .eql 23 (.agg #[.int .i64 1, .int .i64 0, .int .i64 1]) (.agg #[.int .i64 1, .int .i64 0, .int .i64 1])).run Tryd.prog w = .ok (.bool true) w := by kernel_rfl
/-- where nothing is gone and nothing too long, no call fails. -/
theorem files_ok {fb : Nat} {hv : Value} {n k c : Nat} {ps : Nat → ByteArray} {hn : n ≤ 1000} {hps : ∀ i, (ps i).size = 32} {e' : Int} {s s' : Value × List ByteArray} (hkn : k ≤ n)
    (h : Ev (filesSrc fb hv n ps ⟨#[]⟩ ⟨#[]⟩ hn hps) k c 0 e' s s') : e' = 0 := by
  obtain ⟨new, _, _, _, _, _, h6⟩ := h
  by_cases he : e' = 0
  · exact he
  · obtain ⟨p, hp, hb⟩ := h6 rfl he
    have h1 := files_noBad fb hv n k ps ⟨#[]⟩ ⟨#[]⟩ hn hps hkn hb
    obtain ⟨l, i, x, hT, rfl, _⟩ := hb
    have := path_ne (inT_fit (by omega) hT)
    rcases h1 with h1 | h1
    · exact absurd h1 this
    · exact absurd h1 this

set_option maxRecDepth 100000 in
set_option maxHeartbeats 1000000 in
theorem reads_any (w : World) (hT : Tabs w) : Calls Tryd.prog 10 #[] w fun e w' => e = .returned (.bool true) ∧ Below w.heap.size w w' := by
  have HT := Lib.hid hT
  clear hT
  go_enter Tryd.func10, Tryd.ntmps10
  go_wp2_with fail
  refine (leaves_any 6 w (by decide)).mono ?_
  rintro e w1 ⟨v, rfl, ho1, hb1⟩
  obtain ⟨ao, nn, cp, rfl⟩ : ∃ ao n c, v = .slice ao n c := by obtain ⟨ao, c, h, -⟩ := OwnL.form ho1; exact ⟨ao, _, c, h⟩
  obtain ⟨v, hv⟩ : ∃ v, v = Value.slice ao nn cp := ⟨_, rfl⟩
  rw [← hv] at ho1
  have hF : FilesAt (w1.alloc (.cells #[v, .string ⟨#[]⟩, .string ⟨#[]⟩, .slice none 0 0] 42)) w1.heap.size v 6 leafK ⟨#[]⟩ ⟨#[]⟩ (.slice none 0 0) [] := files_new ho1 HT.out.size hb1.size _ _
  have HF := Lib.hid hF
  have HB1 := Lib.hid hb1
  have HT2 := Lib.hid ((HT.out.below hb1).alloc (.cells #[v, .string ⟨#[]⟩, .string ⟨#[]⟩, .slice none 0 0] 42))
  have hsz1 := hb1.size
  clear hF hb1 ho1
  have HVV := Lib.hid hv
  subst hv
  go_wp2_with fail
  obtain ⟨w2, hw2⟩ : ∃ w2, w2 = w1.alloc (.cells #[.slice ao nn cp, .string ⟨#[]⟩, .string ⟨#[]⟩, .slice none 0 0] 42) := ⟨_, rfl⟩
  rw [← hw2] at HF HT2 ⊢
  have HB2 : Hid (Below w.heap.size w w2) := Lib.hid (by rw [hw2]; exact HB1.out.alloc hsz1 _)
  clear hw2
  refine (all_nat 6 w2 (by decide) (by decide)).mono ?_
  rintro e w3 ⟨l, rfl, hol, hb3⟩
  rw [allT_six] at hol
  obtain ⟨lo, lc, rfl, hlc, hlc2, hlcell⟩ := OwnL.form hol
  obtain ⟨lg, rfl, -, -, hcell⟩ := hlcell (by decide)
  have q0 : w3.cell? ⟨lg, 3, none⟩ = some (.int .i64 0) := hcell 3 (by decide)
  have q1 : w3.cell? ⟨lg, 4, none⟩ = some (.int .i64 1) := hcell 4 (by decide)
  have q2 : w3.cell? ⟨lg, 5, none⟩ = some (.int .i64 2) := hcell 5 (by decide)
  have q3 : w3.cell? ⟨lg, 6, none⟩ = some (.int .i64 1) := hcell 6 (by decide)
  have q4 : w3.cell? ⟨lg, 7, none⟩ = some (.int .i64 0) := hcell 7 (by decide)
  have q5 : w3.cell? ⟨lg, 8, none⟩ = some (.int .i64 1) := hcell 8 (by decide)
  have hlg := OwnL.lt hol lg rfl
  have hflt : w1.heap.size < w2.heap.size := (Array.getElem?_eq_some_iff.1 HF.out.blk).1
  have HF3 := Lib.hid (HF.out.below hb3)
  have HT3 := Lib.hid (HT2.out.below hb3)
  have HB3 := Lib.hid hb3
  have Q0 := Lib.hid q0
  have Q1 := Lib.hid q1
  have Q2 := Lib.hid q2
  have Q3 := Lib.hid q3
  have Q4 := Lib.hid q4
  have Q5 := Lib.hid q5
  clear q0 q1 q2 q3 q4 q5 hol hcell hlcell hb3
  go_wp2_with fail
  refine (troot_any (filesSrc w1.heap.size (.slice ao nn cp) 6 leafK ⟨#[]⟩ ⟨#[]⟩ (by decide) leafK_size) 6 (nodeL leafK) (vals_files _ _ _ _ _ _ _ _ _ (by decide)) w3 (.slice none 0 0, []) HF3.out HT3.out (by decide) (Nat.zero_le _)).mono ?_
  rintro e w4 ⟨t, e', s', rfl, hO, ht, -⟩
  obtain rfl : e' = 0 := files_ok (by decide) hO.ev
  replace ht := ht rfl
  rw [rootV_nodeL leafK 6 0 (cut_zero 6)] at ht
  subst ht
  have hS : ∀ g, w2.heap.size ≤ g → ¬ FileS w1.heap.size (.slice none 0 0) g := fun g hg h => h.elim (fun h => by omega) (fun h => by cases h)
  have q0 : w4.cell? ⟨lg, 3, none⟩ = some (.int .i64 0) := (hO.kp.cell (p := ⟨lg, 3, none⟩) hlg.2 (hS lg hlg.1)).trans Q0.out
  have q1 : w4.cell? ⟨lg, 4, none⟩ = some (.int .i64 1) := (hO.kp.cell (p := ⟨lg, 4, none⟩) hlg.2 (hS lg hlg.1)).trans Q1.out
  have q2 : w4.cell? ⟨lg, 5, none⟩ = some (.int .i64 2) := (hO.kp.cell (p := ⟨lg, 5, none⟩) hlg.2 (hS lg hlg.1)).trans Q2.out
  have q3 : w4.cell? ⟨lg, 6, none⟩ = some (.int .i64 1) := (hO.kp.cell (p := ⟨lg, 6, none⟩) hlg.2 (hS lg hlg.1)).trans Q3.out
  have q4 : w4.cell? ⟨lg, 7, none⟩ = some (.int .i64 0) := (hO.kp.cell (p := ⟨lg, 7, none⟩) hlg.2 (hS lg hlg.1)).trans Q4.out
  have q5 : w4.cell? ⟨lg, 8, none⟩ = some (.int .i64 1) := (hO.kp.cell (p := ⟨lg, 8, none⟩) hlg.2 (hS lg hlg.1)).trans Q5.out
  have HF4 : Hid (FilesAt w4 w1.heap.size (.slice ao nn cp) 6 leafK ⟨#[]⟩ ⟨#[]⟩ s'.1 s'.2) := Lib.hid hO.src
  have HT4 := Lib.hid hO.tabs
  have HB4 : Hid (Below w.heap.size w w4) := Lib.hid ((HB2.out.trans (HB3.out.mono (by omega))).trans (hO.kp.toBelow (by have := HB3.out.size; omega) (fun i hi => hi.elim (fun h => by omega) (fun h => by cases h))))
  clear hO Q0 Q1 Q2 Q3 Q4 Q5 hS
  have heq := eq_tile
  go_wp2_with fail
  refine (path_any 0 1 2 w4 (fun _ => HT4.out.itoa 0 (by decide) (by decide)) (fun _ => HT4.out.itoa 1 (by decide) (by decide)) (fun _ => HT4.out.itoa 2 (by decide) (by decide))).mono ?_
  rintro e w5 ⟨rfl, hb5⟩
  have p3 : w5.cell? ⟨lg, 6, none⟩ = some (.int .i64 1) := (hb5.cell (p := ⟨lg, 6, none⟩) (cell_lt q3)).trans q3
  have p4 : w5.cell? ⟨lg, 7, none⟩ = some (.int .i64 0) := (hb5.cell (p := ⟨lg, 7, none⟩) (cell_lt q4)).trans q4
  have p5 : w5.cell? ⟨lg, 8, none⟩ = some (.int .i64 1) := (hb5.cell (p := ⟨lg, 8, none⟩) (cell_lt q5)).trans q5
  have hF5 := HF4.out.below hb5
  have p0 : w5.cell? ⟨w1.heap.size, 0, none⟩ = some (.slice ao nn cp) := cell_of_blk hF5.blk 0 rfl
  have HF5 := Lib.hid hF5
  have HB5 := Lib.hid (HB4.out.trans (hb5.mono HB4.out.size))
  clear hb5 hF5 q0 q1 q2 q3 q4 q5 HF4 HT4 HB4
  rw [path_six]
  go_wp2_with fail
  obtain ⟨ao', cap', hsv, hc1, hc2, hc3, hc4⟩ := HF5.out.hs
  injection hsv with e1 e2 e3
  subst e1
  subst e2
  subst e3
  obtain ⟨pb, rfl, hcells⟩ := hc4 (by decide)
  refine (refroot_any 6 pb 0 _ leafK w5 (by decide) hc1 ⟨by decide, hc2⟩ (fun i hi => by rw [Nat.zero_add]; exact hcells i hi) (fun i => by rw [leafK_size]; omega)).mono ?_
  rintro e w6 ⟨rfl, hb6⟩
  have HB6 := Lib.hid (HB5.out.trans (hb6.mono HB5.out.size))
  have hself : ((rootL leafK 0 6).toList == (rootL leafK 0 6).toList) = true := beq_self_eq_true _
  clear hb6 hcells hc1 hc2 hc3 hc4
  go_wp2_with fail
  go_ret
  exact ⟨rfl, HB6.out⟩
end Go.Proofs.YtobepddifflpdaaDoor
