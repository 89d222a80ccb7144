import Derived.Test.YtmejjphliaiamaaGreatDoorOtN
import Derived.Test.YtmejjphliaiamaaGreatDoorSl
set_option linter.unusedVariables false
set_option linter.unusedSimpArgs false
namespace Go.Proofs.YtmejjphliaiamaaGreatDoor
open Go Go.RowKit Go.Lib Go.Sort

/-! ### a key of height 0 -/
abbrev TKey : TypeId := 112
structure KeyM (B : Nat) (w : World) (kb : Nat) (seed pub : ByteArray) : Prop where
  ex : ∃ lb pb lc pc, w.heap[kb]? = some (.cells #[.string seed, .int .i64 0, .slice (some ⟨lb, 0, none⟩) 1 lc, .int .i64 0] TKey (0, 0)) ∧ w.cell? ⟨lb, 0, none⟩ = some (.slice (some ⟨pb, 0, none⟩) 1 pc) ∧ w.cell? ⟨pb, 0, none⟩ = some (.string pub) ∧
    (∃ cs fz, w.heap[lb]? = some (.cells cs 22 fz)) ∧ (∃ cs fz, w.heap[pb]? = some (.cells cs 9 fz)) ∧ B ≤ pb
theorem KeyM.keep {B : Nat} {w w' : World} {kb : Nat} {seed pub : ByteArray} (h : KeyM B w kb seed pub) (k : ∀ b cs T fz, w.heap[b]? = some (.cells cs T fz) → (T = TKey ∨ T = 22 ∨ (T = 9 ∧ B ≤ b)) → w'.heap[b]? = w.heap[b]?) : KeyM B w' kb seed pub := by
  obtain ⟨lb, pb, lc, pc, h1, h2, h3, ⟨c4, f4, h4⟩, ⟨c5, f5, h5⟩, h6⟩ := h.ex
  have e1 := k _ _ _ _ h1 (.inl rfl)
  have e4 := k _ _ _ _ h4 (.inr (.inl rfl))
  have e5 := k _ _ _ _ h5 (.inr (.inr ⟨rfl, h6⟩))
  exact ⟨lb, pb, lc, pc, e1.trans h1, (World.cell?_of_block e4).trans h2, (World.cell?_of_block e5).trans h3, ⟨c4, f4, e4.trans h4⟩, ⟨c5, f5, e5.trans h5⟩, h6⟩
theorem KeyM.below {B : Nat} {w w' : World} {kb : Nat} {seed pub : ByteArray} (h : KeyM B w kb seed pub) (k : Below w.heap.size w w') : KeyM B w' kb seed pub :=
  h.keep fun b cs T fz hb _ => k.block b (Array.getElem?_eq_some_iff.1 hb).1
theorem infoSls : (Tryz.prog.info? 22).map (fun i => (i.zero, i.size, i.bytes)) = some (some (.slice none 0 0), 1, 24) := by kernel_rfl
def NwRel (seed pub : ByteArray) (w : World) (l n : Value) (wr : World) : Prop :=
  ∃ j : Nat, j ≤ 1 ∧ n = .int .i64 j ∧ OwnS wr (w.heap.size + 1) l ([pub].take j) ∧ wr.heap[w.heap.size]? = some (.cells #[.string seed, .int .i64 0, .slice none 0 0, .int .i64 0] TKey (0, 0)) ∧ Below w.heap.size w wr
theorem one_val (w : World) (v : Value) (t : TypeId) : ∀ j u, ([v] : List Value)[j]? = some u → (w.alloc (.cells #[v] t)).cell? ((⟨w.heap.size, 0, none⟩ : Addr).add j) = some u := by
  intro j u h
  rcases j with _ | j
  · obtain rfl : v = u := by simpa using h
    have hadd : (⟨w.heap.size, 0, none⟩ : Addr).add 0 = ⟨w.heap.size, 0, none⟩ := rfl
    rw [hadd]
    exact cell_of_blk (blk_new w _) 0 rfl
  · simp at h

set_option maxRecDepth 100000 in
set_option maxHeartbeats 1000000 in
theorem rnew_any (seed : ByteArray) (hs : seed.size ≤ 1000000) (w : World) :
    Calls Tryz.prog 19 #[.string seed, .int .i64 0] w fun e w' => ∃ kb, e = .returned (.tuple #[.pointer (some ⟨kb, 0, none⟩), .int .i64 0]) ∧ KeyM w.heap.size w' kb seed (pubB seed 0) ∧ Below w.heap.size w w' := by
  have HP := Lib.hid (rpublic_any seed 0 (by decide) hs)
  generalize pubB seed 0 = pub at HP ⊢
  go_enter Tryz.func19, Tryz.ntmps19
  go_wp2_with fail
  go_loopw [7, 8] (fun l n wr => NwRel seed pub w l n wr) (fun _ n _ => 1 - (intOf n).toNat)
  case atStart => exact ⟨0, by decide, rfl, ownL_nil _ _, blk_new _ _, (Below.refl _ _).alloc (Nat.le_refl _) _⟩
  case round =>
    obtain ⟨j, hj, rfl, hO, hk, hbel⟩ := hrel
    have HO := Lib.hid hO
    have HK := Lib.hid hk
    have HB := Lib.hid hbel
    clear hO hk hbel
    have h01 : j = 0 ∨ j = 1 := by omega
    rcases h01 with rfl | rfl
    · go_wp2_with fail
      refine (HP.out wr).mono ?_
      rintro e w1 ⟨rfl, hb1⟩
      have HO1 := Lib.hid (OwnL.below HO.out hb1)
      have HK1 := Lib.hid (blk_later HK.out hb1)
      have HB1 := Lib.hid (HB.out.trans (hb1.mono HB.out.size))
      clear hb1 HO HK HB
      obtain ⟨i0, hi, hz0, hz1, hz2⟩ := info_parts infoStr
      have HI2 := Lib.hid hz2
      clear hz2
      go_wp2_with (first | (at_builtin; refine wpList_appL _ rfl _ _ 22 rfl i0 (.string ⟨#[]⟩) 16 Tryz.underlying22 hi hz0 hz1 HI2.out rfl (by decide) (w.heap.size + 1) _ [] rfl (OwnL.alloc HO1.out _) pub rfl ⟨w1.heap.size, 0, none⟩ 1 rfl (one_str w1 _ _) ?_ ?_ (by decide) ?_ ?_) | fail)
      · intro u hu; simp at hu; subst hu; rfl
      · decide
      · rw [size_alloc]; have := (Array.getElem?_eq_some_iff.1 HK1.out).1; omega
      intro v4 w4 ho4 hg4 hown4
      have hk4 : w4.heap[w.heap.size]? = some (.cells #[.string seed, .int .i64 0, .slice none 0 0, .int .i64 0] TKey (0, 0)) :=
        (hg4.block _ (by rw [size_alloc]; have := (Array.getElem?_eq_some_iff.1 HK1.out).1; omega) (fun e => by have := (OwnL.lt HO1.out _ e.symm).1; omega)).trans (blk_alloc HK1.out _)
      have hb4 : Below w.heap.size w w4 := (HB1.out.alloc HB1.out.size _).grown hg4 (by rw [size_alloc]; have := HB1.out.size; omega) (fun g hg => by have := (OwnL.lt HO1.out g hg).1; omega)
      have HF := Lib.hid (⟨ho4, hk4, hb4⟩ : OwnS w4 (w.heap.size + 1) v4 [pub] ∧ w4.heap[w.heap.size]? = some (.cells #[.string seed, .int .i64 0, .slice none 0 0, .int .i64 0] TKey (0, 0)) ∧ Below w.heap.size w w4)
      clear ho4 hg4 hown4 hk4 hb4
      go_wp2_with fail
      refine ⟨⟨1, by decide, rfl, HF.out⟩, ?_⟩
      decide
    · have ho1 : OwnS wr (w.heap.size + 1) u7 [pub] := HO.out
      obtain ⟨ao, cap, rfl, -, -, hne⟩ := OwnL.form ho1
      obtain ⟨g, rfl, hg2, ⟨gc, gf, hgt⟩, hcl⟩ := hne Nat.one_pos
      have HGt := Lib.hid hgt
      have hpc : wr.cell? ⟨g, 0, none⟩ = some (.string pub) := hcl 0 Nat.one_pos
      have HPc := Lib.hid hpc
      have hglt := cell_lt hpc
      have hgb : w.heap.size + 1 ≤ g := (OwnL.lt ho1 g hg2).1
      have k2 : wr.cell? ⟨w.heap.size, 2, none⟩ = some (.slice none 0 0) := cell_of_blk HK.out 2 rfl
      have k2a := fun o => cell_alloc k2 o
      clear hne hcl ho1 hg2 hpc HO HP hgt
      obtain ⟨i0, hi, hz0, hz1, hz2⟩ := info_parts infoSls
      have HI2 := Lib.hid hz2
      clear hz2
      have hnil : OwnL 22 1 (fun v : Value => [v]) (wr.alloc (.cells #[.slice (some ⟨g, 0, none⟩) 1 cap] 22)) (w.heap.size + 1) (.slice none 0 0) ([] : List Value) := ownL_nil _ _
      go_wp2_with (first | (at_builtin; refine wpList_appL _ rfl _ _ 110 rfl i0 (.slice none 0 0) 24 Tryz.underlying110 hi hz0 hz1 HI2.out rfl (by decide) (w.heap.size + 1) _ ([] : List Value) rfl hnil (.slice (some ⟨g, 0, none⟩) 1 cap) rfl ⟨wr.heap.size, 0, none⟩ 1 rfl (one_val wr _ _) ?_ ?_ (by decide) ?_ ?_) | fail)
      · rfl
      · exact HB.out.size
      intro v4 w4 ho4 hg4 hown4
      obtain ⟨ao4, cap4, rfl, -, -, hne4⟩ := OwnL.form ho4
      obtain ⟨g4, rfl, hg42, ⟨g4c, g4f, hg4t⟩, hcl4⟩ := hne4 Nat.one_pos
      have hlc : w4.cell? ⟨g4, 0, none⟩ = some (.slice (some ⟨g, 0, none⟩) 1 cap) := hcl4 0 Nat.one_pos
      have hg4b : w.heap.size + 1 ≤ g4 := (OwnL.lt ho4 g4 hg42).1
      have hk4 : w4.heap[w.heap.size]? = some (.cells #[.string seed, .int .i64 0, .slice none 0 0, .int .i64 0] TKey (0, 0)) :=
        (hg4.block _ (by rw [size_alloc]; have := (Array.getElem?_eq_some_iff.1 HK.out).1; omega) (fun e => by cases e)).trans (blk_alloc HK.out _)
      have hp4 : w4.cell? ⟨g, 0, none⟩ = some (.string pub) := by
        have h1 := cell_alloc HPc.out (.cells #[.slice (some ⟨g, 0, none⟩) 1 cap] 22)
        rw [← h1]
        exact World.cell?_of_block (hg4.block _ (cell_lt h1) (fun e => by cases e))
      have hb4 : Below w.heap.size w w4 := (HB.out.alloc HB.out.size _).grown hg4 (by rw [size_alloc]; have := HB.out.size; omega) (fun g hg => by cases hg)
      have hgt4 : w4.heap[g]? = some (.cells gc 9 gf) := (hg4.block _ (by rw [size_alloc]; have := (Array.getElem?_eq_some_iff.1 HGt.out).1; omega) (fun e => by cases e)).trans (blk_alloc HGt.out _)
      have hgtx : (w4.setCell ⟨w.heap.size, 2, none⟩ (.slice (some ⟨g4, 0, none⟩) 1 cap4)).heap[g]? = some (.cells gc 9 gf) := (Below.heap_setCell _ _ _ _ (by show g ≠ w.heap.size; omega)).trans hgt4
      have hg4tx : (w4.setCell ⟨w.heap.size, 2, none⟩ (.slice (some ⟨g4, 0, none⟩) 1 cap4)).heap[g4]? = some (.cells g4c 22 g4f) := (Below.heap_setCell _ _ _ _ (by show g4 ≠ w.heap.size; omega)).trans hg4t
      have hkx : (w4.setCell ⟨w.heap.size, 2, none⟩ (.slice (some ⟨g4, 0, none⟩) 1 cap4)).heap[w.heap.size]? = some (.cells #[.string seed, .int .i64 0, .slice (some ⟨g4, 0, none⟩) 1 cap4, .int .i64 0] TKey (0, 0)) := blk_set hk4 _
      have hlx : (w4.setCell ⟨w.heap.size, 2, none⟩ (.slice (some ⟨g4, 0, none⟩) 1 cap4)).cell? ⟨g4, 0, none⟩ = some (.slice (some ⟨g, 0, none⟩) 1 cap) := by
        rw [← hlc]
        exact World.cell?_of_block (Below.heap_setCell _ _ _ _ (by show g4 ≠ w.heap.size; omega))
      have hpx : (w4.setCell ⟨w.heap.size, 2, none⟩ (.slice (some ⟨g4, 0, none⟩) 1 cap4)).cell? ⟨g, 0, none⟩ = some (.string pub) := by
        rw [← hp4]
        exact World.cell?_of_block (Below.heap_setCell _ _ _ _ (by show g ≠ w.heap.size; omega))
      have c2 := cell_of_blk hk4 2 rfl
      have f2 := free_of_blk hk4 2
      have HF := Lib.hid (⟨⟨⟨g4, g, cap4, cap, hkx, hlx, hpx, ⟨_, _, hg4tx⟩, ⟨_, _, hgtx⟩, by omega⟩⟩, hb4.setCell (p := ⟨w.heap.size, 2, none⟩) (Nat.le_refl _) _⟩ : KeyM w.heap.size (w4.setCell ⟨w.heap.size, 2, none⟩ (.slice (some ⟨g4, 0, none⟩) 1 cap4)) w.heap.size seed pub ∧ Below w.heap.size w (w4.setCell ⟨w.heap.size, 2, none⟩ (.slice (some ⟨g4, 0, none⟩) 1 cap4)))
      clear hgt4 hgtx hg4tx hg4t hne4 hcl4 ho4 hg42 hlc hk4 hp4 hb4 hkx hlx hpx hg4 hown4 HPc HK HB hnil k2 k2a
      go_wp2_with fail
      generalize w4.setCell ⟨w.heap.size, 2, none⟩ (.slice (some ⟨g4, 0, none⟩) 1 cap4) = w5 at HF ⊢
      go_loopw [7, 11] (fun l h wr => l = .slice (some ⟨g, 0, none⟩) 1 cap ∧ h = .int .i64 0 ∧ wr = w5) (fun _ _ _ => 0)
      case atStart => exact ⟨rfl, rfl, rfl⟩
      case round =>
        obtain ⟨rfl, rfl, rfl⟩ := hrel
        go_wp2_with fail
        go_ret2
        exact ⟨_, rfl, HF.out.1, HF.out.2⟩

set_option maxRecDepth 100000 in
set_option maxHeartbeats 1000000 in
theorem rkid_any (B kb : Nat) (seed pub : ByteArray) (w : World) (h : KeyM B w kb seed pub) (hp : pub.size ≤ 1000000) : Calls Tryz.prog 20 #[.pointer (some ⟨kb, 0, none⟩)] w fun e w' => e = .returned (.string (tagB 38 [oneB 0, pub])) ∧ Below w.heap.size w w' := by
  obtain ⟨lb, pb, lc, pc, hk, hl, hpb, -⟩ := h.ex
  have c1 := cell_of_blk hk 1 rfl
  have c2 := cell_of_blk hk 2 rfl
  have c1r := cell_regrown c1
  have c2r := cell_regrown c2
  have clr := cell_regrown hl
  have cpr := cell_regrown hpb
  have hid := rid_any 0 pub (by decide) hp
  generalize tagB 38 [oneB 0, pub] = R at hid ⊢
  have cP : ∀ dd os, Calls Tryz.prog 65 #[.int .i64 0, .string pub] (grow (redrawn w dd) os) fun e w'' => e = .returned (.string R) ∧ ∃ p : Regrown, w'' = grow (redrawn w p.d) p.os :=
    fun dd os => Calls.regrown_of (hid _)
  clear hid h hk
  go_enter Tryz.func20, Tryz.ntmps20
  go_wp2_with fail
  refine wp_region_quiet_below (by kernel_rfl) (by kernel_rfl) ?_
  repeat quiet_step (with_reducible exact cP _ _)
  refine wpQuiet_nil ?_
  intro w5 hw5
  obtain ⟨⟨dq, osq⟩, hw''⟩ := hw5
  have hb5 : Below w.heap.size w w5 := by rw [hw'']; exact below_regrown w dq osq
  have HB5 := Lib.hid hb5
  clear hw'' hb5 c1 c2 c1r c2r clr cpr cP
  go_wp2_with fail
  go_ret
  exact ⟨rfl, HB5.out⟩

theorem KeyM.cell1 {B : Nat} {w : World} {kb : Nat} {seed pub : ByteArray} (h : KeyM B w kb seed pub) : w.cell? ⟨kb, 0, none⟩ = some (.string seed) ∧ w.cell? ⟨kb, 1, none⟩ = some (.int .i64 0) := by
  obtain ⟨lb, pb, lc, pc, hk, hl, hpb, -⟩ := h.ex
  exact ⟨cell_of_blk hk 0 rfl, cell_of_blk hk 1 rfl⟩
def kSig (seed text : ByteArray) : ByteArray := oneB 0 ++ numB 0 2 ++ sigB seed 0 text
theorem kSig_size (seed text : ByteArray) : (kSig seed text).size = 291 := by
  unfold kSig
  rw [ByteArray.size_append, ByteArray.size_append, oneB_size, shanum_size, sigB_size]
set_option maxRecDepth 100000 in
set_option maxHeartbeats 1000000 in
theorem rkat_any (B kb : Nat) (seed pub text : ByteArray) (w : World) (h : KeyM B w kb seed pub) (hs : seed.size ≤ 1000000) (ht : text.size ≤ 100000000) : Calls Tryz.prog 21 #[.pointer (some ⟨kb, 0, none⟩), .int .i64 0, .string text] w fun e w' => e = .returned (.string (kSig seed text)) ∧ Below w.heap.size w w' := by
  have HK := Lib.hid h
  obtain ⟨c0, c1⟩ := h.cell1
  have hsg := rsign_any seed 0 text (by decide) hs ht
  have hz := sigB_size seed 0 text
  unfold kSig
  generalize sigB seed 0 text = sg at hsg hz ⊢
  have HSg := Lib.hid hsg
  clear hsg h
  go_enter Tryz.func21, Tryz.ntmps21
  go_wp2_with fail
  refine (HSg.out w).mono ?_
  rintro e w1 ⟨rfl, hb1⟩
  have HK1 := Lib.hid (HK.out.below hb1)
  have HB1 := Lib.hid hb1
  clear hb1 c0 c1 HSg HK
  obtain ⟨d0, d1⟩ := HK1.out.cell1
  clear d0
  go_wp2_with fail
  refine wp_region_facts 13 58 (FtF w.heap.size [.v (.pointer (some ⟨kb, 0, none⟩)), .v (.pointer (some ⟨kb, 0, none⟩)), .v (.pointer (some ⟨kb, 1, none⟩)), .v (.int .i64 0), .v (.int .u8 0), .own (oneB 0), .v (.string (oneB 0)), .v (.int .i64 0), .v (.int .u64 0), .v (.string (numB 0 2)), .v (.string (oneB 0 ++ numB 0 2)), .v (.string sg), .v (.string (oneB 0 ++ numB 0 2 ++ sg))]) (by kernel_rfl) (by kernel_rfl) rfl (FtF.stable _ _) ⟨?_, ?_, ?_, ?_, ?_, ?_, ?_, ?_, ?_, ?_, ?_, ?_, ?_, trivial⟩ ?_
  · exact fstep_move (.tmp 0) rfl (fun _ _ _ => rfl) fun ev w2 hc hs hp => hs 0 (by kernel_rfl)
  · refine fstep_any (fun _ _ _ => rfl) fun ev w2 hb hc hs hp => ⟨.pointer (some ⟨kb, 0, none⟩), ?_, rfl⟩
    have e21 : ev (.tmp 21) = .pointer (some ⟨kb, 0, none⟩) := hp 0 _ _ (by decide) rfl (by kernel_rfl) rfl
    simp only [execOp, Sem.run_bind, e21]
    go_simp
  · refine fstep_any (fun _ _ _ => rfl) fun ev w2 hb hc hs hp => ⟨.pointer (some ⟨kb, 1, none⟩), ?_, rfl⟩
    have e22 : ev (.tmp 22) = .pointer (some ⟨kb, 0, none⟩) := hp 1 _ _ (by decide) rfl (by kernel_rfl) rfl
    simp only [execOp, Sem.run_bind, e22]
    go_simp
  · refine fstep_any (fun _ _ _ => rfl) fun ev w2 hb hc hs hp => ⟨_, ?_, rfl⟩
    have e23 : ev (.tmp 23) = .pointer (some ⟨kb, 1, none⟩) := hp 2 _ _ (by decide) rfl (by kernel_rfl) rfl
    have x1 := (hb.cell (cell_lt d1)).trans d1
    simp only [execOp, Sem.run_bind, e23]
    go_simp
  · exact fstep_conv _ _ (.tmp 24) rfl (fun _ _ _ => rfl) fun ev w2 hb hc hs hp => ⟨_, (congrArg (fun v => (convert 3 5 v).run Tryz.prog w2) (hp 3 _ _ (by decide) rfl (by kernel_rfl) rfl)).trans (conv_u8 0 (by decide) w2), rfl⟩
  · exact fstep_build _ _ (.tmp 25) 0 rfl (fun _ _ _ => rfl) fun ev w2 hb hc hs hp => by
      rw [show ev (.tmp 25) = .int .u8 0 from hp 4 _ _ (by decide) rfl (by kernel_rfl) rfl]
      exact build_one 0 (by decide) w.heap.size w2 (Nat.le_trans HB1.out.size hb.size)
  · exact fstep_conv _ _ (.tmp 26) rfl (fun _ _ _ => rfl) fun ev w2 hb hc hs hp => ⟨_, run_str (hp 5 _ _ (by decide) rfl (by kernel_rfl) rfl), rfl⟩
  · exact fstep_move (.tmp 1) rfl (fun _ _ _ => rfl) fun ev w2 hc hs hp => hs 1 (by kernel_rfl)
  · exact fstep_conv _ _ (.tmp 28) rfl (fun _ _ _ => rfl) fun ev w2 hb hc hs hp => ⟨_, (congrArg (fun v => (convert 3 117 v).run Tryz.prog w2) (hp 7 _ _ (by decide) rfl (by kernel_rfl) rfl)).trans (conv_u64 0 (by decide) w2), rfl⟩
  · exact fstep_call 67 #[.tmp 29, .const (.int .i64 2)] _ rfl (fun _ _ _ => rfl) #[.int .u64 0, .int .i64 2] (fun w => by kernel_rfl) fun ev w2 hb hc hs hp =>
      ⟨by simp only [List.map_toArray, List.map_cons, List.map_nil, hc, show ev (.tmp 29) = .int .u64 0 from hp 8 _ _ (by decide) rfl (by kernel_rfl) rfl],
        (onumber_any 0 2 (by decide) (by decide) w2).mono fun e w3 ⟨he, hb⟩ => ⟨_, he, hb, rfl⟩⟩
  · refine fstep_any (fun _ _ _ => rfl) fun ev w2 hb hc hs hp => ⟨.string (oneB 0 ++ numB 0 2), ?_, rfl⟩
    have e27 : ev (.tmp 27) = .string (oneB 0) := hp 6 _ _ (by decide) rfl (by kernel_rfl) rfl
    have e30 : ev (.tmp 30) = .string (numB 0 2) := hp 9 _ _ (by decide) rfl (by kernel_rfl) rfl
    have z1 := oneB_size 0
    have z2 := shanum_size 0 2
    simp only [execOp, Sem.run_bind, e27, e30]
    go_simp
  · exact fstep_move (.tmp 7) rfl (fun _ _ _ => rfl) fun ev w2 hc hs hp => hs 7 (by kernel_rfl)
  · refine fstep_any (fun _ _ _ => rfl) fun ev w2 hb hc hs hp => ⟨.string (oneB 0 ++ numB 0 2 ++ sg), ?_, rfl⟩
    have e31 : ev (.tmp 31) = .string (oneB 0 ++ numB 0 2) := hp 10 _ _ (by decide) rfl (by kernel_rfl) rfl
    have e32 : ev (.tmp 32) = .string sg := hp 11 _ _ (by decide) rfl (by kernel_rfl) rfl
    have z1 : (oneB 0 ++ numB 0 2).size = 3 := by rw [ByteArray.size_append, oneB_size, shanum_size]
    simp only [execOp, Sem.run_bind, e31, e32]
    go_simp
  intro a' w2 H
  have HB2 := Lib.hid (HB1.out.trans (H.below.mono HB1.out.size))
  have HK2 := Lib.hid (HK1.out.below H.below)
  have e33 : a'.tmps.getD 33 undef = .string (oneB 0 ++ numB 0 2 ++ sg) := H.facts 12 _ _ (by decide) rfl (by kernel_rfl) rfl
  rw [act_list 58 [0, 1, 2, 3, 4, 5, 6, 7, 8, 9, 10, 11, 12, 13, 14, 15, 16, 17, 18, 19, 20, 21, 22, 23, 24, 25, 26, 27, 28, 29, 30, 31, 32, 33, 34, 35, 36, 37, 38, 39, 40, 41, 42, 43, 44, 45, 46, 47, 48, 49, 50, 51, 52, 53, 54, 55, 56, 57] rfl H.size]
  simp only [List.map_cons, List.map_nil, e33, H.defers, H.same 0 (by kernel_rfl), H.same 1 (by kernel_rfl), H.same 2 (by kernel_rfl), H.same 3 (by kernel_rfl), H.same 4 (by kernel_rfl), H.same 5 (by kernel_rfl), H.same 6 (by kernel_rfl), H.same 7 (by kernel_rfl), H.same 8 (by kernel_rfl), H.same 9 (by kernel_rfl), H.same 10 (by kernel_rfl), H.same 11 (by kernel_rfl), H.same 12 (by kernel_rfl), H.same 13 (by kernel_rfl), H.same 14 (by kernel_rfl), H.same 15 (by kernel_rfl), H.same 16 (by kernel_rfl), H.same 17 (by kernel_rfl), H.same 18 (by kernel_rfl), H.same 19 (by kernel_rfl), H.same 20 (by kernel_rfl), H.same 34 (by kernel_rfl), H.same 35 (by kernel_rfl), H.same 36 (by kernel_rfl), H.same 37 (by kernel_rfl), H.same 38 (by kernel_rfl), H.same 39 (by kernel_rfl), H.same 40 (by kernel_rfl), H.same 41 (by kernel_rfl), H.same 42 (by kernel_rfl), H.same 43 (by kernel_rfl), H.same 44 (by kernel_rfl), H.same 45 (by kernel_rfl), H.same 46 (by kernel_rfl), H.same 47 (by kernel_rfl), H.same 48 (by kernel_rfl), H.same 49 (by kernel_rfl), H.same 50 (by kernel_rfl), H.same 51 (by kernel_rfl), H.same 52 (by kernel_rfl), H.same 53 (by kernel_rfl), H.same 54 (by kernel_rfl), H.same 55 (by kernel_rfl), H.same 56 (by kernel_rfl), H.same 57 (by kernel_rfl)]
  simp only [Array.getD_eq_getD_getElem?, List.getElem?_toArray, List.getElem?_cons_zero, List.getElem?_cons_succ, Option.getD_some]
  clear e33 H
  show wpList _ _ _ _ _ _
  clear d1 HK1 HB1
  obtain ⟨d0, d1⟩ := HK2.out.cell1
  clear d0
  go_wp2_with fail
  go_loopw [9, 10] (fun s h wr => s = .string (oneB 0 ++ numB 0 2 ++ sg) ∧ h = .int .i64 0 ∧ wr = w2) (fun _ _ _ => 0)
  case atStart => exact ⟨rfl, rfl, rfl⟩
  case round =>
    obtain ⟨rfl, rfl, rfl⟩ := hrel
    go_wp2_with fail
    go_ret
    exact ⟨rfl, HB2.out⟩
end Go.Proofs.YtmejjphliaiamaaGreatDoor
