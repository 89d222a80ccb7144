import Derived.Test.YtobepddifflpdaaDoorTiD
set_option linter.unusedVariables false
namespace Go.Proofs.YtobepddifflpdaaDoor
open Go Go.RowKit Go.Lib Go.Sort Go.Maps Go.WideMaps

set_option maxRecDepth 100000 in
set_option maxHeartbeats 2000000 in
theorem tcons_ok (Z : Src) (n m : Nat) (V : Nat → Nat → ByteArray) (hV : Vals Z n V) (w : World) (s : Z.σ) (hI : Z.I w s) (hT : Tabs w) (hn : n ≤ 1024) (hm0 : 0 < m) (hm : m ≤ n) (hlog : (Z.log s).length ≤ 400000000) :
    Calls Tryd.prog 23 #[.iface Z.T Z.x, .int .i64 n, .int .i64 m] w (PrfPost Z n (partG (rootV V) m 0 n true) w s) := by
  obtain ⟨i0, hi0, hz0, hz1, hz2⟩ := info_parts infoStr
  have HI2 := Lib.hid hz2
  have HI := Lib.hid hI
  have HT := Lib.hid hT
  clear hI hT hz2
  have hmz : ¬ (m : Int) = 0 := by omega
  go_enter Tryd.func23, Tryd.ntmps23
  go_wp2_with fail
  have hb1 : Below w.heap.size w (w.alloc (.cells #[.int .i64 m] 3)) := (Below.refl _ _).alloc (Nat.le_refl _) _
  have hx := cell_of_blk (blk_new w (.cells #[.int .i64 m] 3)) 0 rfl
  have hsz1 := size_alloc w (.cells #[.int .i64 m] 3)
  generalize w.alloc (.cells #[.int .i64 m] 3) = w1 at hb1 hx hsz1 ⊢
  refine (newReader_any Z n w1 s (Z.kp w w1 s (fun _ => False) HI.out (Kp.of_below hb1) (fun _ _ h => h)) (HT.out.below hb1) hn).mono ?_
  rintro en w2 ⟨rb, kb, rfl, hR, hb2, hrb, hkb⟩
  have x2 : w2.cell? ⟨w.heap.size, 0, none⟩ = some (.int .i64 m) := (hb2.cell (p := ⟨w.heap.size, 0, none⟩) (cell_lt hx)).trans hx
  have HB := Lib.hid (hb1.trans (hb2.mono hb1.size))
  have HR := Lib.hid hR
  have hsz2 := hb2.size
  clear hb1 hb2 hx hR
  go_wp2_with fail
  refine (down_any Z rb kb n w.heap.size m V hV (conR m) (conM m) (conJ V n m) (con_downs V n m) _ _ (pred_conR w.heap.size m) (pred_conM w.heap.size m) w2 s HR.out x2 (by omega) (by omega) (fun h => by have := Z.lt w s HI.out _ h; omega) (con_start V n m hm0 hm) hlog).mono ?_
  rintro en w3 ⟨a, b, l, wh, e', s', v, rfl, hab, hbn, hcut, ho, hll, hls, hL, hdis, hj⟩
  have HL := Lib.hid hL
  have HOw := Lib.hid ho
  have HJ := Lib.hid hj
  have HD := Lib.hid hdis
  have HC := Lib.hid hcut
  have hlen3 := hL.ev.len
  have hszL := hL.kp.size
  have c2 : w3.cell? ⟨rb, 2, none⟩ = some (.int .i64 e') := cell_of_blk hL.rd.blk 2 rfl
  clear ho hj hL hdis hcut x2
  cases wh with
  | true =>
    have hO := out_of_left HB.out (by omega) (by omega) (HL.out.mono (show 2 * (n - (b - a)) ≤ 2 * n by omega))
    have HO := Lib.hid hO
    have HL3 := Lib.hid (fun k hk => Z.lt w3 s' HL.out.rd.src k hk)
    have hszO := hO.kp.size
    clear hO
    go_wp2_with fail
    by_cases he : e' = 0
    · subst he
      obtain ⟨h1, h2⟩ := HJ.out rfl
      have hfin := con_end h1 h2
      have HF := Lib.hid hfin
      clear h1 h2 hfin HJ
      refine (proof_ok rb w2.heap.size v l w3 #[] c2 HOw.out (by omega)).mono ?_
      rintro en w4 ⟨p, rfl, hp, hb4⟩
      have HP := Lib.hid hp
      have HO4 := Lib.hid (HO.out.below hb4)
      clear hp hb4
      go_wp2_with fail
      go_ret2
      exact ⟨p, 0, s', l.reverse, rfl, HO4.out, HP.out.base (fun g hg => by have := (OwnL.lt HP.out g hg).1; omega), (fun g hg h => by have := (OwnL.lt HP.out g hg).1; have := HL3.out g h; omega), fun _ => HF.out.symm, fun h => absurd rfl h⟩
    · refine (proof_err rb v w3 e' he c2).mono ?_
      rintro en w4 ⟨rfl, hb4⟩
      have HO4 := Lib.hid (HO.out.below hb4)
      clear hb4
      go_wp2_with fail
      go_ret2
      exact ⟨_, e', s', [], rfl, HO4.out, ownL_nil _ _, (fun g hg => by cases hg), fun h => absurd h he, fun _ => rfl⟩
  | false =>
    obtain ⟨d, hd⟩ : ∃ d, d = b - a := ⟨_, rfl⟩
    have hbd : a + d = b := by omega
    have HDd := Lib.hid hd
    have HBd := Lib.hid hbd
    have HC2 := Lib.hid (show Cut a d by rw [hd]; exact HC.out)
    clear hd hbd c2
    go_wp2_with fail
    have h1 := rroot_any Z rb kb n V hV d a w3 e' s' HL.out.rd HC2.out (by have := HBd.out; omega) (by have := HDd.out; omega)
    rw [HBd.out] at h1
    refine h1.mono ?_
    rintro en w4 ⟨t1, e1, s1, rfl, hL1, hv1, ht1⟩
    have hO3 := OwnL.kp HOw.out hL1.kp (fun g hg h => h.elim (HD.out g hg).1 (fun h => h.elim (HD.out g hg).2.1 (fun h => (HD.out g hg).2.2 (Z.sub _ _ h))))
    have hL1' := HL.out.trans hL1
    have hD3 : ∀ g, v.ownBlock = some g → g ≠ rb ∧ g ≠ kb ∧ ¬ Z.R s1 g ∧ g < w4.heap.size := fun g hg => by
      have h3 := OwnL.lt HOw.out g hg
      refine ⟨(HD.out g hg).1, (HD.out g hg).2.1, fun h => ?_, (OwnL.lt hO3 g hg).2⟩
      rcases hL1.rg g h with h | h
      · exact (HD.out g hg).2.2 h
      · omega
    have hsz4 := hL1'.kp.size
    have HL3 := Lib.hid hL1'
    have HO3 := Lib.hid hO3
    have HV1 := Lib.hid hv1
    have HD3 := Lib.hid hD3
    have HZ := Lib.hid hL1.ev.zero
    clear hL1 hL1' hv1 h1 hO3 hD3
    go_wp2_with (first | (at_builtin; refine wpList_appL _ rfl _ _ 29 rfl i0 (.string ⟨#[]⟩) 16 Tryd.underlying29 hi0 hz0 hz1 HI2.out rfl (by decide) w2.heap.size _ l rfl (OwnL.alloc HO3.out _) t1 rfl ⟨w4.heap.size, 0, none⟩ 1 rfl (one_str w4 _ _) ?_ ?_ (by decide) ?_ ?_) | fail)
    · intro u hu; simp at hu; subst hu; rfl
    · omega
    · rw [size_alloc]; omega
    intro v5 w5 ho5 hg5 hown5
    have hR5 : Rd Z rb kb n w5 e1 s1 := by
      have h3 := HL3.out.rd.below ((Below.refl _ _).alloc (Nat.le_refl _) (.cells #[.string t1] 9))
      refine h3.kp (U := fun i => v.ownBlock = some i) ⟨hg5.os, hg5.tape, hg5.output, hg5.size, fun i hi hn => hg5.block i hi (fun e => hn e.symm)⟩ (fun h => (HD3.out _ h).1 rfl) (fun h => (HD3.out _ h).2.1 rfl) (fun i h1 h2 => (HD3.out _ h2).2.2.1 h1) (fun i hi => ?_)
      have := (OwnL.lt HO3.out i hi).1
      have := HR.out.tabs.size
      omega
    have hK5 : Kp (RdS Z rb kb s) w2 w5 := (HL3.out.kp.alloc _).grown hg5 (fun i hi => .inr (OwnL.lt HO3.out i hi).1)
    have hL5 : Left Z rb kb n (2 * (n - (b - a)) + 2 * d) w2 0 s w5 e1 s1 := ⟨hR5, hK5, HL3.out.rg, HL3.out.sg, HL3.out.ev⟩
    have hO := out_of_left HB.out (by omega) (by omega) (hL5.mono (show 2 * (n - (b - a)) + 2 * d ≤ 2 * n by have := HDd.out; omega))
    have HO := Lib.hid hO
    have HLt := Lib.hid (fun k hk => Z.lt w5 s1 hR5.src k hk)
    have hszO := hO.kp.size
    have c2 : w5.cell? ⟨rb, 2, none⟩ = some (.int .i64 e1) := cell_of_blk hR5.blk 2 rfl
    have HO5 := Lib.hid ho5
    clear hO hL5 hK5 hR5 ho5 hg5 hown5
    go_wp2_with fail
    by_cases he : e1 = 0
    · have hv := HV1.out he
      have he0 := HZ.out he
      obtain ⟨h1, h2⟩ := HJ.out he0
      have hfin := con_end h1 h2
      rw [← HDd.out] at hfin
      subst he
      have HF := Lib.hid hfin
      have HVt := Lib.hid hv
      clear h1 h2 hfin HJ hv
      refine (proof_ok rb w2.heap.size v5 (l ++ [t1]) w5 #[] c2 HO5.out (by rw [List.length_append]; simp; omega)).mono ?_
      rintro en w6 ⟨p, rfl, hp, hb6⟩
      have HP := Lib.hid hp
      have HO6 := Lib.hid (HO.out.below hb6)
      clear hp hb6
      go_wp2_with fail
      go_ret2
      exact ⟨p, 0, s1, (l ++ [t1]).reverse, rfl, HO6.out, HP.out.base (fun g hg => by have := (OwnL.lt HP.out g hg).1; omega), (fun g hg h => by have := (OwnL.lt HP.out g hg).1; have := HLt.out g h; omega), fun _ => by rw [HF.out, HVt.out]; rfl, fun h => absurd rfl h⟩
    · refine (proof_err rb v5 w5 e1 he c2).mono ?_
      rintro en w6 ⟨rfl, hb6⟩
      have HO6 := Lib.hid (HO.out.below hb6)
      clear hb6
      go_wp2_with fail
      go_ret2
      exact ⟨_, e1, s1, [], rfl, HO6.out, ownL_nil _ _, (fun g hg => by cases hg), fun h => absurd h he, fun _ => rfl⟩
end Go.Proofs.YtobepddifflpdaaDoor
