import Derived.Test.YtmejjphliaiamaaGreatDoorMeJ
import Derived.Test.YtmejjphliaiamaaGreatDoorQuE
import Derived.BigRegion
import Derived.Deep.RegionHeld
set_option linter.unusedVariables false
set_option linter.unusedSimpArgs false
namespace Go.Proofs.YtmejjphliaiamaaGreatDoor
open Go Go.RowKit Go.Lib Go.Sort

/-! ### opened, without a set -/
set_option maxRecDepth 100000 in
theorem setidx_nil (f : Value) (w : World) : Calls Tryz.prog 123 #[.slice none 0 0, f] w fun e w' => e = .returned (.int .i64 (-1)) ∧ Below w.heap.size w w' := by
  go_enter Tryz.func123, Tryz.ntmps123
  go_wp2_with fail
  go_loopw [8] (fun i wr => i = .int .i64 0 ∧ w = wr) (fun i _ => 0)
  case atStart => exact ⟨rfl, rfl⟩
  case round =>
    obtain ⟨rfl, rfl⟩ := hrel
    go_wp2_with fail
    go_ret
    exact ⟨rfl, Below.refl _ _⟩
set_option maxRecDepth 100000 in
theorem setcon_nil (f : Value) (w : World) : Calls Tryz.prog 68 #[.slice none 0 0, f] w fun e w' => e = .returned (.bool false) ∧ Below w.heap.size w w' := by
  have HC := Lib.hid (setidx_nil f w)
  go_enter Tryz.func68, Tryz.ntmps68
  go_wp2_with fail
  refine HC.out.mono ?_
  rintro e w1 ⟨rfl, hb⟩
  have HB := Lib.hid hb
  clear hb
  go_wp2_with fail
  go_ret
  exact ⟨rfl, HB.out⟩
theorem doc_ret3 {fn : Func} {Q : Ending → World → Prop} (a : Act) (w : World) (b : Nat) (d : DV) (s : ByteArray) (e : Int) (h : DocAt w b d)
    (hf : fn.results = #[.cell 6 30, .tmp 7, .tmp 8])
    (ha : a.tmps[6]?.getD undef = .pointer (some ⟨b, 0, none⟩)) (hs : a.tmps[7]?.getD undef = .string s) (hc : a.tmps[8]?.getD undef = .int .i64 e) (hd : a.defers = []) (hQ : Q (.returned (.tuple #[.agg (docC d), .string s, .int .i64 e])) w) :
    bodyPost Tryz.prog fn Q Exit.ret a w := by
  refine bodyPost_ret (v := .tuple #[.agg (docC d), .string s, .int .i64 e]) ?_ hd hQ
  have hl : (loadVar 30 ⟨b, 0, none⟩).run Tryz.prog w = .ok (.agg (docC d)) w := run_loadVar_row w b _ _ (docC d) (0, 0) _ h docU rfl (docI d)
  simp [results, hf, ha, hs, hc, asAddr, hl]

set_option maxRecDepth 100000 in
set_option maxHeartbeats 4000000 in
theorem open_ok (s body : ByteArray) (L : List SigT) (k : Int) (dd : DV) (w : World) (hs : s.size ≤ 1000000000) (hu : usP s = ((body, L), 0)) (hk : dd.kind = k)
    (hdec : ∀ W, Calls Tryz.prog 11 #[.string body] W (DecPost 0 (fun d _ => d = dd) W)) :
    Calls Tryz.prog 23 #[.string s, .int .i64 k, .slice none 0 0] w fun e w' => e = .returned (.tuple #[.agg (docC dd), .string body, .int .i64 0]) ∧ Below w.heap.size w w' := by
  obtain ⟨w1, hw1⟩ : ∃ w1, w1 = w.alloc (.cells (docC dz) 30) := ⟨_, rfl⟩
  have ho1 : DocAt w1 w.heap.size dz := by rw [hw1]; exact blk_new _ _
  have hb1 : Below w.heap.size w w1 := by rw [hw1]; exact (Below.refl _ w).alloc (Nat.le_refl _) _
  have HO1 := Lib.hid ho1
  have HB1 := Lib.hid hb1
  have HU := unseal_any s w1 hs
  unfold UsPost at HU
  rw [hu] at HU
  have HUs := Lib.hid HU
  have HDec := Lib.hid hdec
  have HK := Lib.hid hk
  simp only [docC, dz, sz] at hw1
  clear ho1 hb1 HU hu hdec hk
  go_enter Tryz.func23, Tryz.ntmps23
  go_wp2_with fail
  rw [← hw1]
  clear hw1
  refine HUs.out.mono ?_
  rintro e w2 ⟨v, rfl, hown, hb2⟩
  have HO2 := Lib.hid (HO1.out.later hb2)
  have HB2 := Lib.hid (HB1.out.trans (hb2.mono HB1.out.size))
  obtain ⟨ao, cap, rfl, -, -, -⟩ := OwnL.form hown
  have hn2 : w2.heap.size ≠ w.heap.size := by have := (Array.getElem?_eq_some_iff.1 HO2.out).1; omega
  clear hb2 HUs HO1 HB1 hown
  have hy1 := blk_new w2 (.cells #[.string body] 9)
  have hy2 : ((w2.alloc (.cells #[.string body] 9)).alloc (.cells #[.slice ao L.length cap] 41)).heap[w2.heap.size]? = some (.cells #[.string body] 9 (0, 0)) := blk_alloc hy1 _
  have ho3 : DocAt ((w2.alloc (.cells #[.string body] 9)).alloc (.cells #[.slice ao L.length cap] 41)) w.heap.size dz := blk_alloc (blk_alloc HO2.out _) _
  have hb3 : Below w.heap.size w ((w2.alloc (.cells #[.string body] 9)).alloc (.cells #[.slice ao L.length cap] 41)) := (HB2.out.alloc HB2.out.size _).alloc (by rw [size_alloc]; have := HB2.out.size; omega) _
  go_wp2_with fail
  generalize (w2.alloc (.cells #[.string body] 9)).alloc (.cells #[.slice ao L.length cap] 41) = w3 at hy2 ho3 hb3 ⊢
  have HO3 := Lib.hid ho3
  have HB3 := Lib.hid hb3
  have HY3 := Lib.hid hy2
  clear hy1 hy2 ho3 hb3 HO2 HB2
  have hdc := HDec.out w3
  unfold DecPost at hdc
  refine hdc.mono ?_
  rintro e w4 ⟨d', rfl, hdd, hb4⟩
  obtain rfl : d' = dd := hdd
  have ho4 := HO3.out.later hb4
  have hy4 := blk_later HY3.out hb4
  have hB4 := HB3.out.trans (hb4.mono HB3.out.size)
  have hlt4 : w.heap.size < w4.heap.size := (Array.getElem?_eq_some_iff.1 ho4).1
  have hltb : w2.heap.size < w4.heap.size := (Array.getElem?_eq_some_iff.1 hy4).1
  obtain ⟨w5, hw5⟩ : ∃ w5, w5 = w4.alloc (.cells (docC dz) 30) := ⟨_, rfl⟩
  have hd5 : DocAt (w4.alloc (.cells (docC dz) 30)) w4.heap.size dz := blk_new _ _
  have hd5' : DocAt w5 w4.heap.size dz := hw5 ▸ hd5
  have ho5 : DocAt w5 w.heap.size dz := by rw [hw5]; exact blk_alloc ho4 _
  have hy5 : w5.heap[w2.heap.size]? = some (.cells #[.string body] 9 (0, 0)) := by rw [hw5]; exact blk_alloc hy4 _
  have hB5 : Below w.heap.size w w5 := by rw [hw5]; exact hB4.alloc hB4.size _
  obtain ⟨hd6, hk6⟩ := doc_setRow hd5' d'
  have ho6 := blk_kp ho5 hk6 (by omega)
  have hy6 := blk_kp hy5 hk6 (by omega)
  have hB6 := hB5.trans (hk6.toBelow hB5.size (fun i hi => by have := hB4.size; omega))
  have hd5l : DocAt (w4.alloc (.cells (docC dz) 30)) w4.heap.size dz := hd5
  have HD5 := Lib.hid hd5l
  simp only [docC, dz, sz] at hw5
  have c0 : (w5.setRow w4.heap.size (docC d')).cell? ⟨w4.heap.size, 0, none⟩ = some (.int .i64 d'.kind) := cell_of_blk hd6 0 (v := .int .i64 d'.kind) rfl
  have hkk : d'.kind = k := HK.out
  rw [hkk, hw5] at c0
  have HO6 := Lib.hid ho6
  have HY6 := Lib.hid hy6
  have HB6 := Lib.hid hB6
  have HD6 := Lib.hid hd6
  clear hb4 ho4 hy4 hB4 hd5 hd5' hd5l ho5 hy5 hB5 hk6 ho6 hy6 hB6 hd6 HO3 HB3 HY3 hdc HDec hkk
  go_wp2_with (first | refine wpList_docst rfl _ _ rfl w4.heap.size dz d' rfl rfl HD5.out ?_ | fail)
  rw [← hw5]
  clear hw5 c0 HD5
  generalize w5.setRow w4.heap.size (docC d') = w6 at HO6 HY6 HB6 HD6 ⊢
  refine (setcon_nil _ w6).mono ?_
  rintro e w7 ⟨rfl, hb7⟩
  have HO7 : Hid (DocAt w7 w.heap.size dz) := Lib.hid (blk_later HO6.out hb7)
  have hy7 := blk_later HY6.out hb7
  have HB7 := Lib.hid (HB6.out.trans (hb7.mono HB6.out.size))
  have HD7 : Hid (DocAt w7 w4.heap.size d') := Lib.hid (blk_later HD6.out hb7)
  have y0 := cell_of_blk hy7 0 (v := .string body) rfl
  have HO8 : Hid (DocAt w7.drew w.heap.size dz) := Lib.hid HO7.out
  have HD8 : Hid (DocAt w7.drew w4.heap.size d') := Lib.hid HD7.out
  have HB8 : Hid (Below w.heap.size w w7.drew) := Lib.hid (HB7.out.trans (Below.mono (below_drew (Below.refl _ _)) HB7.out.size))
  have y0' : w7.drew.cell? ⟨w2.heap.size, 0, none⟩ = some (.string body) := y0
  have y1 : (w7.drew.setRow w.heap.size (docC d')).cell? ⟨w2.heap.size, 0, none⟩ = some (.string body) := (cell_setRow_other w7.drew w.heap.size (docC d') _ hn2).trans y0'
  have HZ := Lib.hid (doc_setRow HO8.out d')
  have HD9 : Hid (DocAt (w7.drew.setRow w.heap.size (docC d')) w4.heap.size d') := Lib.hid (blk_kp HD8.out HZ.out.2 (by omega))
  clear hb7 hy7 HO6 HY6 HB6 HD6
  go_wp2_with fail
  refine wp_region_held_drew (S := fun W => DocAt W w4.heap.size d' ∧ W.cell? ⟨w2.heap.size, 0, none⟩ = some (.string body)) (by kernel_rfl) ⟨HD8.out, y0'⟩ (fun hHeld => ?_)
  refine wpAnyH_take (i := 0) (v := .agg (docC d')) rfl (by kernel_rfl) (by kernel_rfl) (by kernel_rfl) (fun _ _ _ h => h) (Or.inl ⟨by rfl, ?_⟩) hHeld ?_
  · intro W hW
    have hl : (loadVar 30 ⟨w4.heap.size, 0, none⟩).run Tryz.prog W = .ok (.agg (docC d')) W := run_loadVar_row W _ _ _ (docC d') (0, 0) _ hW.1 docU rfl (docI d')
    have hl2 : (Instr.loadAt 30 (.pointer (some ⟨w4.heap.size, 0, none⟩))).run Tryz.prog W = .ok (.agg (docC d')) W := by
      simp only [Instr.loadAt, Instr.sureAddr, Sem.run_bind, Sem.run_pure, Result.andThen_ok, hl]
    simp only [List.getElem_toArray, List.getElem_cons_zero]
    unfold execOp
    show (Sem.run Tryz.prog (do let v ← Instr.loadAt 30 (.pointer (some ⟨w4.heap.size, 0, none⟩)); pure (Next.value v)) W) = _
    simp only [Sem.run_bind, hl2, Result.andThen_ok, Sem.run_pure]
  try simp only [List.getElem_toArray, List.getElem_cons_zero, List.getElem_cons_succ, Act.put, List.setIfInBounds_toArray, List.set_cons_zero, List.set_cons_succ]
  refine wpAnyH_take (i := 1) (v := .string body) rfl (by kernel_rfl) (by kernel_rfl) (by kernel_rfl) (fun _ _ _ h => h) (Or.inl ⟨by rfl, ?_⟩) hHeld ?_
  · intro W hW
    have hl := hW.2
    go_simp
  try simp only [List.getElem_toArray, List.getElem_cons_zero, List.getElem_cons_succ, Act.put, List.setIfInBounds_toArray, List.set_cons_zero, List.set_cons_succ]
  refine wpAnyH_ready (rs := [2]) (by kernel_rfl) (by simp) ?_
  refine AllReadyH.cons rfl (fun K hK => ?_) AllReadyH.nil
  refine step_docst (by rfl) _ _ (by rfl) w.heap.size dz d' (by rfl) (by rfl) HO8.out ?_
  refine hK.out _ _ ⟨HD9.out, y1⟩ (fun hHeld2 => ?_)
  clear hK K hHeld
  try simp only [List.getElem_toArray, List.getElem_cons_zero, List.getElem_cons_succ, Act.put, List.setIfInBounds_toArray, List.set_cons_zero, List.set_cons_succ]
  refine wpAnyH_take (i := 3) (v := ?_) rfl (by kernel_rfl) (by kernel_rfl) (by kernel_rfl) (fun _ _ _ h => h) (Or.inl ⟨by rfl, ?_⟩) hHeld2 ?_
  rotate_left
  · (intro wq hSw; go_simp; try with_reducible rfl)
  try simp only [List.getElem_toArray, List.getElem_cons_zero, List.getElem_cons_succ, Act.put, List.setIfInBounds_toArray, List.set_cons_zero, List.set_cons_succ]
  refine wpAnyH_take (i := 4) (v := ?_) rfl (by kernel_rfl) (by kernel_rfl) (by kernel_rfl) (fun _ _ _ h => h) (Or.inl ⟨by rfl, ?_⟩) hHeld2 ?_
  rotate_left
  · (intro wq hSw; go_simp; try with_reducible rfl)
  try simp only [List.getElem_toArray, List.getElem_cons_zero, List.getElem_cons_succ, Act.put, List.setIfInBounds_toArray, List.set_cons_zero, List.set_cons_succ]
  refine wpAnyH_done (by kernel_rfl) ?_ _
  go_wp2_with fail
  refine doc_ret3 _ _ w.heap.size d' body 0 HZ.out.1 rfl rfl rfl rfl rfl ?_
  exact ⟨rfl, HB8.out.trans (HZ.out.2.toBelow HB8.out.size (fun i hi => by omega))⟩
end Go.Proofs.YtmejjphliaiamaaGreatDoor
