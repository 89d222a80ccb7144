import Derived.Test.YtmejjphliaiamaaGreatDoorOtH
import Derived.Test.YtmejjphliaiamaaGreatDoorBu
import Derived.Lib.QuoteBits
import Derived.Test.YtmejjphliaiamaaGreatDoorSl
set_option linter.unusedVariables false
namespace Go.Proofs.YtmejjphliaiamaaGreatDoor
open Go Go.RowKit Go.Lib Go.Sort

theorem bld_new (w : World) : Lib.IsBuilderF TB 5 w.heap.size w.heap.size [] (w.alloc (.cells #[.pointer none, .slice none 0 0] 166)) :=
  .inl ⟨Nat.le_refl _, .slice none 0 0, blk_new w _, World.ownsRowF_of (ownB_nil _ _), by simp [Value.ownBlock]⟩
theorem bat_later {T e : TypeId} {B b : Nat} {p : Value} {bs : List Value} {w w' : World} (h : Lib.BuilderAtF T e B b p bs w) (k : Below w.heap.size w w') : Lib.BuilderAtF T e B b p bs w' := by
  have hlt := h.lt
  obtain ⟨hB, v, hb, hown, hne⟩ := h
  exact ⟨hB, v, blk_later hb k, hown.kept (row := none) ⟨k.os, k.tape, k.output, k.size, fun i hi _ => k.block i hi⟩ (by cases hv : v.ownBlock <;> simp), hne⟩
theorem isb_later {T e : TypeId} {B b : Nat} {bs : List Value} {w w' : World} (h : Lib.IsBuilderF T e B b bs w) (k : Below w.heap.size w w') : Lib.IsBuilderF T e B b bs w' :=
  h.imp (fun h => bat_later h k) (fun h => bat_later h k)
/-- a function of an index, behind a closure. -/
def IdxFn (G : Nat) (lb : Array Value) (g : Nat → ByteArray) (w : World) : Prop :=
  ∀ (W : World) (i : Nat), i < 18 → Below w.heap.size w W → Calls Tryz.prog G (#[.int .i64 i] ++ lb) W fun e w' => e = .returned (.string (g i)) ∧ Below W.heap.size W w'
def AlRel (g : Nat → ByteArray) (w0 : World) (i : Value) (wr : World) : Prop :=
  ∃ j : Nat, j ≤ 18 ∧ i = .int .i64 j ∧ Lib.IsBuilderF TB 5 w0.heap.size w0.heap.size (Lib.strCells (allN g j)) wr ∧ Below w0.heap.size w0 wr

set_option maxRecDepth 100000 in
set_option maxHeartbeats 1000000 in
theorem all_any (G : Nat) (lb : Array Value) (eg : ∀ args w, (callFunc G args).run Tryz.prog w = .ok (.enter G args) w) (g : Nat → ByteArray) (hg : ∀ i, i < 18 → (g i).size = 16) (w : World) (hp : IdxFn G lb g w) :
    Calls Tryz.prog 208 #[.func (.func G) #[] lb] w fun e w' => e = .returned (.string (allN g 18)) ∧ Below w.heap.size w w' := by
  have HP := Lib.hid hp
  have HG := Lib.hid hg
  clear hp hg
  go_enter Tryz.func208, Tryz.ntmps208
  go_wp2_with fail
  have HB0 := Lib.hid (bld_new w)
  go_loopw [5] (fun i wr => AlRel g w i wr) (fun i _ => 18 - (intOf i).toNat)
  case atStart => exact ⟨0, by decide, rfl, HB0.out, (Below.refl _ _).alloc (Nat.le_refl _) _⟩
  case round =>
    obtain ⟨j, hj, rfl, hb, hbel⟩ := hrel
    have HB := Lib.hid hb
    have HW := Lib.hid hbel
    clear hb hbel HB0
    have hsz := allN_size g j (fun i hi => HG.out i (by omega))
    by_cases hlt : j < 18
    · have hgs := HG.out j hlt
      have hpf := HP.out wr j hlt HW.out
      have HPF := Lib.hid hpf
      clear hpf
      have hY : allN g (j + 1) = allN g j ++ g j := rfl
      have HY := Lib.hid hY
      clear hY
      go_wp2_with fail
      refine HPF.out.mono ?_
      rintro e w1 ⟨rfl, hb1⟩
      have HW1 := Lib.hid (HW.out.trans (hb1.mono HW.out.size))
      have HB1 := Lib.hid (isb_later HB.out hb1)
      clear hb1 HB HW HPF
      go_wp2_with fail
      refine (bwrite_any w.heap.size w.heap.size _ (g j) _ HB1.out (by rw [Lib.strCells_length]; omega) HW1.out.size).mono ?_
      rintro e w2 ⟨rfl, hb2, hk2⟩
      rw [← strCells_append, ← HY.out] at hb2
      have HB2 := Lib.hid hb2
      have HW2 := Lib.hid (HW1.out.trans hk2)
      clear hb2 hk2 HB1 HW1
      go_wp2_with fail
      refine ⟨⟨j + 1, hlt, rfl, .inr HB2.out, HW2.out⟩, ?_⟩
      show 18 - ((j : Int) + 1).toNat < 18 - (j : Int).toNat
      omega
    · obtain rfl : j = 18 := by omega
      have hne : (allN g 18).data.toList ≠ [] := by
        intro h
        have h2 := congrArg List.length h
        rw [Array.length_toList] at h2
        have h3 : (allN g 18).data.size = 288 := hsz
        rw [h3] at h2
        cases h2
      have hb3 := HB.out
      have hcell : Lib.strCells (allN g 18) = Lib.byteCells (allN g 18).data.toList := rfl
      rw [hcell] at hb3
      have HS3 := Lib.hid (Tryz.Builder_String_f w.heap.size w.heap.size (allN g 18).data.toList wr hb3 hne)
      have harr : (⟨(allN g 18).data.toList.toArray⟩ : ByteArray) = allN g 18 := by rw [Array.toArray_toList]
      rw [harr] at HS3
      clear hb3 hne hcell harr HB
      generalize hal : allN g 18 = al at HS3 ⊢
      have Hal := Lib.hid hal
      clear hal
      go_wp2_with fail
      refine HS3.out.mono ?_
      rintro e w3 ⟨rfl, -, hb⟩
      have HBz := Lib.hid (HW.out.trans hb)
      clear hb
      go_wp2_with fail
      go_ret
      have hf := Hal.out
      subst hf
      exact ⟨rfl, HBz.out⟩

set_option maxRecDepth 100000 in
theorem fit_ok (n : Int) (hn : 0 ≤ n ∧ n < 65536) (w : World) : Calls Tryz.prog 206 #[.int .i64 n] w fun e w' => e = .returned (.int .i64 0) ∧ Below w.heap.size w w' := by
  have h1 : ¬ n < 0 := by omega
  have h2 : ¬ (65535 : Int) < n := by omega
  go_enter Tryz.func206, Tryz.ntmps206
  go_wp2_with fail
  go_ret
  exact ⟨rfl, Below.refl _ _⟩

set_option maxRecDepth 100000 in
set_option maxHeartbeats 1000000 in
theorem recf_any (n : Int) (h sig : ByteArray) (i : Nat) (pn bd ps : Nat) (wr : World) (hn : 0 ≤ n ∧ n < 65536) (hs : sig.size = 288) (hi : i < 18)
    (c1 : wr.cell? ⟨pn, 0, none⟩ = some (.int .i64 n)) (hd : wr.heap[bd]? = some (.cells (dgV h) T18 (0, 0))) (c3 : wr.cell? ⟨ps, 0, none⟩ = some (.string sig)) :
    Calls Tryz.prog 209 #[.int .i64 i, .pointer (some ⟨pn, 0, none⟩), .pointer (some ⟨bd, 0, none⟩), .pointer (some ⟨ps, 0, none⟩)] wr fun e w' =>
      e = .returned (.string (chainN n i (dgT h i : Nat) (sig.extract (16 * i) (16 * i + 16)) ((15 : Int) - (dgT h i : Nat)).toNat)) ∧ Below wr.heap.size wr w' := by
  have c2 : wr.cell? ⟨bd, i, none⟩ = some (.int .i64 (dgT h i)) := cell_of_blk hd _ (dgV_get h i hi)
  have hlt16 := dgT_lt h i
  have c1r := cell_regrown c1
  have c2r := cell_regrown c2
  have c3r := cell_regrown c3
  have hxs : (sig.extract (16 * i) (16 * i + 16)).size = 16 := by rw [ByteArray.size_extract]; omega
  have t1 : (16 * (i : Int)).toNat = 16 * i := by omega
  have t2 : (16 * (i : Int) + 16).toNat = 16 * i + 16 := by omega
  have hw1 : IntKind.i64.wrap (16 * (i : Int)) = 16 * (i : Int) := IntWalk.i64_in _ (by omega)
  have hw2 : IntKind.i64.wrap (16 * (i : Int) + 16) = 16 * (i : Int) + 16 := IntWalk.i64_in _ (by omega)
  have hA1 : (0 : Int) ≤ 16 * (i : Int) + 16 := by omega
  have hA2 : 16 * (i : Int) + 16 ≤ 288 := by omega
  have hA3 : (0 : Int) ≤ 16 * (i : Int) := by omega
  have hA4 : 16 * (i : Int) ≤ 16 * (i : Int) + 16 := by omega
  have hA6 : (0 : Int) ≤ (i : Int) := by omega
  have hA7 : (i : Int) < 18 := by omega
  have h3 : (sig.size : Int) = 288 := by omega
  generalize hxj : sig.extract (16 * i) (16 * i + 16) = xj at hxs ⊢
  generalize dgT h i = dj at c2 c2r hlt16 ⊢
  have hC : ∀ W, Calls Tryz.prog 210 #[.int .i64 n, .int .i64 i, .int .i64 dj, .int .i64 15, .string xj] W fun e w' => e = .returned (.string (chainN n i dj xj ((15 : Int) - dj).toNat)) ∧ Below W.heap.size W w' :=
    fun W => chain_any n i dj 15 xj hn ⟨by omega, by omega⟩ (by omega) (by decide) (by omega) W
  generalize chainN n i dj xj ((15 : Int) - dj).toNat = R at hC ⊢
  have cP : ∀ dd os, Calls Tryz.prog 210 #[.int .i64 n, .int .i64 i, .int .i64 dj, .int .i64 15, .string xj] (grow (redrawn wr dd) os) fun e w'' => e = .returned (.string R) ∧ ∃ p : Regrown, w'' = grow (redrawn wr p.d) p.os :=
    fun dd os => Calls.regrown_of (hC _)
  clear hC
  go_enter Tryz.func209, Tryz.ntmps209
  go_wp2_with fail
  refine wp_region_quiet_below (by kernel_rfl) (by kernel_rfl) ?_
  repeat quiet_step (with_reducible exact cP _ _)
  refine wpQuiet_nil ?_
  intro w5 hw5
  obtain ⟨⟨dq, osq⟩, hw''⟩ := hw5
  have hb5 : Below wr.heap.size wr w5 := by rw [hw'']; exact below_regrown wr dq osq
  have HB5 := Lib.hid hb5
  clear hw'' hb5 c1 c2 c3 c1r c2r c3r cP
  go_wp2_with fail
  go_ret
  exact ⟨rfl, HB5.out⟩

set_option maxRecDepth 100000 in
set_option maxHeartbeats 1000000 in
theorem recover_any (n : Int) (text sig : ByteArray) (hn : 0 ≤ n ∧ n < 65536) (ht : text.size ≤ 100000000) (hs : sig.size = 288) (w : World) :
    Calls Tryz.prog 179 #[.int .i64 n, .string text, .string sig] w fun e w' => e = .returned (.tuple #[.string (recB n text sig), .int .i64 0]) ∧ Below w.heap.size w w' := by
  rw [recB_eq]
  have hG := fun i hi => recG_size n text sig hs i hi
  have hG2 : ∀ i : Nat, recG n text sig i = chainN n i (dgT (txtH text) i : Nat) (sig.extract (16 * i) (16 * i + 16)) ((15 : Int) - (dgT (txtH text) i : Nat)).toNat := fun i => by
    unfold recG
    congr 1
    omega
  have hD := digits_any text ht
  generalize recG n text sig = g at hG hG2 ⊢
  generalize txtH text = h at hG2 hD
  have HG := Lib.hid hG
  have HG2 := Lib.hid hG2
  have HD := Lib.hid hD
  clear hG hG2 hD
  have hsz := allN_size g 18 HG.out
  generalize hal : allN g 18 = al at hsz ⊢
  have Hal := Lib.hid hal
  clear hal
  go_enter Tryz.func179, Tryz.ntmps179
  have h3 : (sig.size : Int) = 288 := by omega
  go_wp2_with fail
  refine (fit_ok n hn _).mono ?_
  rintro e w1 ⟨rfl, hb1⟩
  have hk1 : w1.heap[w.heap.size]? = some (.cells #[.int .i64 n] 3 (0, 0)) := blk_later (blk_new1 w _ _) hb1
  have hk2 : w1.heap[w.heap.size + 1]? = some (.cells #[.string sig] 9 (0, 0)) := blk_later (blk_new2 w _ _) hb1
  have hB1 : Below w.heap.size w w1 := (((Below.refl _ _).alloc (Nat.le_refl _) _).alloc (by simp) _).trans (hb1.mono (by simp; omega))
  have HK1 := Lib.hid hk1
  have HK2 := Lib.hid hk2
  have HB1 := Lib.hid hB1
  have c2 : w1.cell? ⟨w.heap.size + 1, 0, none⟩ = some (.string sig) := cell_of_blk hk2 0 rfl
  clear hk1 hk2 hB1 hb1
  go_wp2_with fail
  refine (HD.out w1).mono ?_
  rintro e w2 ⟨rfl, hb2⟩
  have HK1 := Lib.hid (blk_later HK1.out hb2)
  have HK2 := Lib.hid (blk_later HK2.out hb2)
  have HB2 := Lib.hid (HB1.out.trans (hb2.mono HB1.out.size))
  have HZ : Hid ((w2.alloc (.cells z18 T18)).heap[w2.heap.size]? = some (.cells z18 T18 (0, 0))) := Lib.hid (blk_new _ _)
  clear hb2 HD c2 HB1
  go_wp2_with (first | refine wpList_st18 rfl (.tmp 9) (.tmp 19) rfl w2.heap.size h z18 rfl rfl HZ.out rfl ?_ | fail)
  have hlt2 : w.heap.size + 1 < w2.heap.size := (Array.getElem?_eq_some_iff.1 HK2.out).1
  have hb3 : Below w2.heap.size w2 ((w2.alloc (.cells z18 T18)).setRow w2.heap.size (dgV h)) := below_setRow ((Below.refl _ _).alloc (Nat.le_refl _) _) (Nat.le_refl _) _
  have hd3 : ((w2.alloc (.cells z18 T18)).setRow w2.heap.size (dgV h)).heap[w2.heap.size]? = some (.cells (dgV h) T18 (0, 0)) := heap_setRow _ HZ.out
  generalize (w2.alloc (.cells z18 T18)).setRow w2.heap.size (dgV h) = w3 at hb3 hd3 ⊢
  have HK1 := Lib.hid (blk_later HK1.out hb3)
  have HK2 := Lib.hid (blk_later HK2.out hb3)
  have HB3 := Lib.hid (HB2.out.trans (hb3.mono HB2.out.size))
  generalize w2.heap.size = bd at hd3 hlt2 ⊢
  have HD3 := Lib.hid hd3
  clear hb3 hd3 HZ HB2
  refine (all_any 209 _ (fun args w => by kernel_rfl) g HG.out w3 (fun W i hi hW => ?_)).mono ?_
  · rw [HG2.out i]
    exact recf_any n h sig i w.heap.size bd (w.heap.size + 1) W hn hs hi (cell_of_blk (blk_later HK1.out hW) 0 rfl) (blk_later HD3.out hW) (cell_of_blk (blk_later HK2.out hW) 0 rfl)
  rintro e w4 ⟨rfl, hb4⟩
  have HB4 := Lib.hid (HB3.out.trans (hb4.mono HB3.out.size))
  clear hb4 HB3 HK1 HK2 HD3
  rw [Hal.out]
  go_wp2_with fail
  refine (tag_one 35 (by decide) al _ (by omega) w4).mono ?_
  rintro e w6 ⟨rfl, hb6⟩
  have HB6 := Lib.hid (HB4.out.trans (hb6.mono HB4.out.size))
  clear hb6
  go_wp2_with fail
  go_ret2
  exact ⟨rfl, HB6.out⟩

theorem or_256 (a b : Nat) (ha : a < 256) (hb : b < 256) : bits BinOp.or IntKind.i64 ((a : Int) * 256) (b : Int) = ((256 * a + b : Nat) : Int) := by
  rw [show (a : Int) * 256 = ((256 * a : Nat) : Int) by omega]
  show IntKind.i64.wrap ((BitVec.ofInt 64 ((256 * a : Nat) : Int) ||| BitVec.ofInt 64 ((b : Nat) : Int)).toNat : Int) = _
  rw [BitVec.toNat_or, ofInt_u64 _ (by omega), ofInt_u64 _ (by omega), ← Nat.two_pow_add_eq_or_of_lt (i := 8) hb a]
  exact wrap_i64_small _ (by omega)
theorem idx_at (s : ByteArray) (k : Nat) (h : k < s.size) : ∀ W, (Instr.index 9 (.string s) (.int .i64 k)).run Tryz.prog W = .ok (.int .u8 (byN s k)) W := fun W => idx_str s k h W

set_option maxRecDepth 100000 in
set_option maxHeartbeats 1000000 in
theorem knumber_any (sig : ByteArray) (w : World) :
    Calls Tryz.prog 178 #[.string sig] w fun e w' => e = .returned (.tuple #[.int .i64 (numK sig).1, .int .i64 (numK sig).2]) ∧ Below w.heap.size w w' := by
  obtain ⟨R, hR⟩ : ∃ R, R = numK sig := ⟨_, rfl⟩
  rw [← hR]
  unfold numK at hR
  go_enter Tryz.func178, Tryz.ntmps178
  by_cases h1 : sig.size < 291
  · rw [if_pos (.inl h1)] at hR
    have h2 : (sig.size : Int) < 291 := by omega
    go_wp2_with fail
    go_ret2
    try rw [hR]
    exact ⟨rfl, Below.refl _ _⟩
  · have h2 : ¬ ((sig.size : Int) < 291) := by omega
    have i0 := idx_at sig 0 (by omega)
    have i1 := idx_at sig 1 (by omega)
    have i2 := idx_at sig 2 (by omega)
    rw [show ((0 : Nat) : Int) = 0 from rfl] at i0
    rw [show ((1 : Nat) : Int) = 1 from rfl] at i1
    rw [show ((2 : Nat) : Int) = 2 from rfl] at i2
    have b0 := byN_lt sig 0
    have b1 := byN_lt sig 1
    have b2 := byN_lt sig 2
    generalize byN sig 0 = x0 at *
    generalize byN sig 1 = x1 at *
    generalize byN sig 2 = x2 at *
    by_cases h3 : 4 < x0
    · rw [if_pos (.inr (.inl h3))] at hR
      have h4 : (4 : Int) < x0 := by omega
      go_wp2_with fail
      go_ret2
      try rw [hR]
      exact ⟨rfl, Below.refl _ _⟩
    · have h4 : ¬ ((4 : Int) < x0) := by omega
      by_cases h5 : sig.size ≠ 291 + 32 * x0
      · rw [if_pos (.inr (.inr (.inl h5)))] at hR
        have h7 : ((sig.size : Int) != 291 + 32 * (x0 : Int)) = true := bne_iff_ne.2 (by omega)
        go_wp2_with fail
        go_ret2
        try rw [hR]
        exact ⟨rfl, Below.refl _ _⟩
      · have h7 : ((sig.size : Int) != 291 + 32 * (x0 : Int)) = false := by
          rw [show (sig.size : Int) = 291 + 32 * (x0 : Int) by omega]
          simp
        have ho := or_256 x1 x2 b1 b2
        have hv : 256 * x1 + x2 < 65536 := by omega
        have hR2 : R = if 2 ^ x0 ≤ 256 * x1 + x2 then (0, 3) else (((256 * x1 + x2 : Nat) : Int), 0) := by
          rw [hR]
          by_cases hq : 2 ^ x0 ≤ 256 * x1 + x2
          · rw [if_pos (.inr (.inr (.inr hq))), if_pos hq]
          · rw [if_neg (by omega), if_neg hq]
        generalize 256 * x1 + x2 = v at ho hv hR2
        have HR := Lib.hid hR2
        clear hR hR2
        go_wp2_with fail
        go_big_quiet (fail)
        have h5 : x0 = 0 ∨ x0 = 1 ∨ x0 = 2 ∨ x0 = 3 ∨ x0 = 4 := by omega
        by_cases hq : 2 ^ x0 ≤ v
        · have hr : R = (0, 3) := by rw [HR.out, if_pos hq]
          have HRn := Lib.hid hr
          clear hr HR
          rcases h5 with rfl | rfl | rfl | rfl | rfl <;> (
            simp only [Nat.reducePow] at hq
            have hq2 : (v : Int) ≥ _ := Int.ofNat_le.2 hq
            go_wp2_with fail
            go_ret2
            rw [HRn.out]
            exact ⟨rfl, ⟨rfl, rfl, rfl, Nat.le_refl _, fun _ _ => rfl⟩⟩)
        · have hr : R = ((v : Int), 0) := by rw [HR.out, if_neg hq]
          have HRn := Lib.hid hr
          clear hr HR
          rcases h5 with rfl | rfl | rfl | rfl | rfl <;> (
            simp only [Nat.reducePow, Nat.not_le] at hq
            have hq2 : (v : Int) < _ := Int.ofNat_lt.2 hq
            go_wp2_with fail
            go_ret2
            rw [HRn.out]
            exact ⟨rfl, ⟨rfl, rfl, rfl, Nat.le_refl _, fun _ _ => rfl⟩⟩)
set_option maxRecDepth 100000 in
set_option maxHeartbeats 1000000 in
theorem rknumber_any (sig : ByteArray) (w : World) :
    Calls Tryz.prog 182 #[.string sig] w fun e w' => e = .returned (.tuple #[.int .i64 (numK sig).1, .int .i64 (numK sig).2]) ∧ Below w.heap.size w w' := by
  obtain ⟨R, hR⟩ : ∃ R, R = numK sig := ⟨_, rfl⟩
  rw [← hR]
  unfold numK at hR
  go_enter Tryz.func182, Tryz.ntmps182
  by_cases h1 : sig.size < 291
  · rw [if_pos (.inl h1)] at hR
    have h2 : (sig.size : Int) < 291 := by omega
    go_wp2_with fail
    go_ret2
    try rw [hR]
    exact ⟨rfl, Below.refl _ _⟩
  · have h2 : ¬ ((sig.size : Int) < 291) := by omega
    have i0 := idx_at sig 0 (by omega)
    have i1 := idx_at sig 1 (by omega)
    have i2 := idx_at sig 2 (by omega)
    rw [show ((0 : Nat) : Int) = 0 from rfl] at i0
    rw [show ((1 : Nat) : Int) = 1 from rfl] at i1
    rw [show ((2 : Nat) : Int) = 2 from rfl] at i2
    have b0 := byN_lt sig 0
    have b1 := byN_lt sig 1
    have b2 := byN_lt sig 2
    generalize byN sig 0 = x0 at *
    generalize byN sig 1 = x1 at *
    generalize byN sig 2 = x2 at *
    by_cases h3 : 4 < x0
    · rw [if_pos (.inr (.inl h3))] at hR
      have h4 : (4 : Int) < x0 := by omega
      go_wp2_with fail
      go_ret2
      try rw [hR]
      exact ⟨rfl, Below.refl _ _⟩
    · have h4 : ¬ ((4 : Int) < x0) := by omega
      by_cases h5 : sig.size ≠ 291 + 32 * x0
      · rw [if_pos (.inr (.inr (.inl h5)))] at hR
        have h7 : ((sig.size : Int) != 291 + 32 * (x0 : Int)) = true := bne_iff_ne.2 (by omega)
        go_wp2_with fail
        go_ret2
        try rw [hR]
        exact ⟨rfl, Below.refl _ _⟩
      · have h7 : ((sig.size : Int) != 291 + 32 * (x0 : Int)) = false := by
          rw [show (sig.size : Int) = 291 + 32 * (x0 : Int) by omega]
          simp
        have ho : (x1 : Int) * 256 + (x2 : Int) = ((256 * x1 + x2 : Nat) : Int) := by omega
        have hv : 256 * x1 + x2 < 65536 := by omega
        have hR2 : R = if 2 ^ x0 ≤ 256 * x1 + x2 then (0, 3) else (((256 * x1 + x2 : Nat) : Int), 0) := by
          rw [hR]
          by_cases hq : 2 ^ x0 ≤ 256 * x1 + x2
          · rw [if_pos (.inr (.inr (.inr hq))), if_pos hq]
          · rw [if_neg (by omega), if_neg hq]
        generalize 256 * x1 + x2 = v at ho hv hR2
        have HR := Lib.hid hR2
        clear hR hR2
        go_wp2_with fail
        go_big_quiet (fail)
        have h5 : x0 = 0 ∨ x0 = 1 ∨ x0 = 2 ∨ x0 = 3 ∨ x0 = 4 := by omega
        by_cases hq : 2 ^ x0 ≤ v
        · have hr : R = (0, 3) := by rw [HR.out, if_pos hq]
          have HRn := Lib.hid hr
          clear hr HR
          rcases h5 with rfl | rfl | rfl | rfl | rfl <;> (
            simp only [Nat.reducePow] at hq
            have hq2 : (v : Int) ≥ _ := Int.ofNat_le.2 hq
            go_wp2_with fail
            go_ret2
            rw [HRn.out]
            exact ⟨rfl, ⟨rfl, rfl, rfl, Nat.le_refl _, fun _ _ => rfl⟩⟩)
        · have hr : R = ((v : Int), 0) := by rw [HR.out, if_neg hq]
          have HRn := Lib.hid hr
          clear hr HR
          rcases h5 with rfl | rfl | rfl | rfl | rfl <;> (
            simp only [Nat.reducePow, Nat.not_le] at hq
            have hq2 : (v : Int) < _ := Int.ofNat_lt.2 hq
            go_wp2_with fail
            go_ret2
            rw [HRn.out]
            exact ⟨rfl, ⟨rfl, rfl, rfl, Nat.le_refl _, fun _ _ => rfl⟩⟩)

theorem tag_two (x : Int) (hx : 0 ≤ x ∧ x < 256) (a b : ByteArray) (t : TypeId) (ht : a.size + b.size ≤ 70368744100000) (w : World) :
    Calls Tryz.prog 180 #[.int .u8 x, .slice (some ⟨w.heap.size, 0, none⟩) 2 2] (w.alloc (.cells #[.string a, .string b] t)) fun e w' => e = .returned (.string (tagB x [a, b])) ∧ Below w.heap.size w w' := by
  refine (tag_any x hx _ 2 2 (psL [a, b]) _ (strs_row #[.string a, .string b] t 2 (psL [a, b]) w (row2 _ _)) (by decide) (by rw [tagN_sz2]; omega)).mono ?_
  rintro e w1 ⟨rfl, hb⟩
  exact ⟨rfl, ((Below.refl _ _).alloc (Nat.le_refl _) _).trans (hb.mono (by simp))⟩
theorem rtag_two (x : Int) (hx : 0 ≤ x ∧ x < 256) (a b : ByteArray) (t : TypeId) (ht : a.size + b.size ≤ 70368744100000) (w : World) :
    Calls Tryz.prog 64 #[.int .u8 x, .slice (some ⟨w.heap.size, 0, none⟩) 2 2] (w.alloc (.cells #[.string a, .string b] t)) fun e w' => e = .returned (.string (tagB x [a, b])) ∧ Below w.heap.size w w' := by
  refine (reftag_any x hx _ 2 2 (psL [a, b]) _ (strs_row #[.string a, .string b] t 2 (psL [a, b]) w (row2 _ _)) (by decide) (by rw [tagN_sz2]; omega)).mono ?_
  rintro e w1 ⟨rfl, hb⟩
  exact ⟨rfl, ((Below.refl _ _).alloc (Nat.le_refl _) _).trans (hb.mono (by simp))⟩

set_option maxRecDepth 100000 in
set_option maxHeartbeats 1000000 in
theorem named_any (n : Int) (top : ByteArray) (hn : 0 ≤ n ∧ n < 256) (ht : top.size ≤ 1000000) (w : World) : Calls Tryz.prog 181 #[.int .i64 n, .string top] w fun e w' => e = .returned (.string (tagB 38 [oneB n, top])) ∧ Below w.heap.size w w' := by
  go_enter Tryz.func181, Tryz.ntmps181
  go_wp2_with fail
  rw [run_str (own_new _ (oneB n) 1 w (by rw [strCells_one, show n % 256 = n by omega]) (oneB_size _) (by decide))]
  go_wp2_with fail
  have hB : Below w.heap.size w (w.alloc (.cells #[.int .u8 n] 5)) := (Below.refl _ _).alloc (Nat.le_refl _) _
  have h1 : w.heap.size + 1 = (w.alloc (.cells #[.int .u8 n] 5)).heap.size := (size_alloc _ _).symm
  rw [h1]
  generalize w.alloc (.cells #[.int .u8 n] 5) = w1 at hB ⊢
  have HB := Lib.hid hB
  clear hB h1
  refine (tag_two 38 (by decide) (oneB n) top _ (by rw [oneB_size]; omega) w1).mono ?_
  rintro e w2 ⟨rfl, hb2⟩
  have HB2 := Lib.hid (HB.out.trans (hb2.mono HB.out.size))
  clear hb2
  go_wp2_with fail
  go_ret
  exact ⟨rfl, HB2.out⟩
set_option maxRecDepth 100000 in
set_option maxHeartbeats 1000000 in
theorem rid_any (n : Int) (top : ByteArray) (hn : 0 ≤ n ∧ n < 256) (ht : top.size ≤ 1000000) (w : World) : Calls Tryz.prog 65 #[.int .i64 n, .string top] w fun e w' => e = .returned (.string (tagB 38 [oneB n, top])) ∧ Below w.heap.size w w' := by
  go_enter Tryz.func65, Tryz.ntmps65
  go_wp2_with fail
  rw [run_str (own_new _ (oneB n) 1 w (by rw [strCells_one, show n % 256 = n by omega]) (oneB_size _) (by decide))]
  go_wp2_with fail
  have hB : Below w.heap.size w (w.alloc (.cells #[.int .u8 n] 5)) := (Below.refl _ _).alloc (Nat.le_refl _) _
  have h1 : w.heap.size + 1 = (w.alloc (.cells #[.int .u8 n] 5)).heap.size := (size_alloc _ _).symm
  rw [h1]
  generalize w.alloc (.cells #[.int .u8 n] 5) = w1 at hB ⊢
  have HB := Lib.hid hB
  clear hB h1
  refine (rtag_two 38 (by decide) (oneB n) top _ (by rw [oneB_size]; omega) w1).mono ?_
  rintro e w2 ⟨rfl, hb2⟩
  have HB2 := Lib.hid (HB.out.trans (hb2.mono HB.out.size))
  clear hb2
  go_wp2_with fail
  go_ret
  exact ⟨rfl, HB2.out⟩

theorem and_1 (n : Nat) (hn : n < 65536) : bits BinOp.and IntKind.i64 (n : Int) 1 = ((n % 2 : Nat) : Int) := by
  show IntKind.i64.wrap ((BitVec.ofInt 64 ((n : Nat) : Int) &&& BitVec.ofInt 64 ((1 : Nat) : Int)).toNat : Int) = _
  rw [BitVec.toNat_and, ofInt_u64 _ (by omega), ofInt_u64 _ (by omega), Nat.and_one_is_mod]
  exact wrap_i64_small _ (by omega)
theorem climb_size (sig : ByteArray) (n : Nat) (x : ByteArray) (hx : x.size = 32) : ∀ j, (climbN sig n x j).size = 32
  | 0 => hx
  | j + 1 => by
    unfold climbN
    split <;> exact tagB_size _ _
theorem emp_toL : ByteArray.toList ⟨#[]⟩ = [] := by rw [ByteArray.toList_eq]
theorem nemp {x : ByteArray} (h : x.size ≠ 0) : (x.toList == ByteArray.toList ⟨#[]⟩) = false ∧ x.toList.isEmpty = false := by
  have hx : ¬ x = ⟨#[]⟩ := fun e => h (by rw [e]; rfl)
  have h2 := toList_eqbV x ⟨#[]⟩
  rw [decide_eq_false hx] at h2
  refine ⟨h2, ?_⟩
  cases hl : x.toList with
  | nil => rw [hl, emp_toL] at h2; exact absurd h2 (by decide)
  | cons a l => rfl
theorem ext_ext (s : ByteArray) (a b c d e f : Nat) (h1 : a + c = e) (h2 : a + d = f) (h3 : f ≤ b) : (s.extract a b).extract c d = s.extract e f := by
  subst h1 h2
  rw [ByteArray.extract_extract, Nat.min_eq_left h3]
def strLen (v : Value) : Nat := match v with | .string s => s.size | _ => 0
def VeRel (sig : ByteArray) (N : Nat) (x0 : ByteArray) (H : Nat) (w : World) (n nd pa : Value) (wr : World) : Prop :=
  ∃ j : Nat, j ≤ H ∧ n = .int .i64 (N / 2 ^ j : Nat) ∧ nd = .string (climbN sig N x0 j) ∧ pa = .string (sig.extract (291 + 32 * j) (291 + 32 * H)) ∧ Below w.heap.size w wr

set_option maxRecDepth 100000 in
set_option maxHeartbeats 1000000 in
theorem verify_any (want text sig : ByteArray) (ht : text.size ≤ 100000000) (w : World) :
    Calls Tryz.prog 152 #[.string want, .string text, .string sig] w fun e w' => e = .returned (.int .i64 (verP want text sig)) ∧ Below w.heap.size w w' := by
  obtain ⟨R, hR⟩ : ∃ R, R = verP want text sig := ⟨_, rfl⟩
  rw [← hR]
  have hK := knumber_any sig
  have hN : (numK sig).2 = 0 → sig.size = 291 + 32 * byN sig 0 ∧ byN sig 0 ≤ 4 ∧ ∃ v : Nat, v < 65536 ∧ (numK sig).1 = v := by
    unfold numK
    intro h
    split at h
    · exact absurd h (by decide)
    · rename_i hc
      have b1 := byN_lt sig 1
      have b2 := byN_lt sig 2
      rw [if_neg hc]
      exact ⟨by omega, by omega, _, by omega, rfl⟩
  unfold verP at hR
  generalize numK sig = q at hR hK hN
  have HK := Lib.hid hK
  have HN := Lib.hid hN
  have HR := Lib.hid hR
  clear hK hN hR
  go_enter Tryz.func152, Tryz.ntmps152
  go_wp2_with fail
  refine (HK.out w).mono ?_
  rintro e w1 ⟨rfl, hb1⟩
  have HB1 := Lib.hid hb1
  clear hb1 HK
  by_cases hq : q.2 = 0
  · obtain ⟨hz, hh, N, hN, hq1⟩ := HN.out hq
    have hr := HR.out
    rw [if_neg (by rw [hq]; decide), hq1, Int.toNat_natCast] at hr
    have i0 := idx_at sig 0 (by omega)
    rw [show ((0 : Nat) : Int) = 0 from rfl] at i0
    generalize byN sig 0 = H at *
    have hes : (sig.extract 3 291).size = 288 := by rw [ByteArray.size_extract]; omega
    have hrec := recover_any N text (sig.extract 3 291) ⟨by omega, by omega⟩ ht hes
    have hx32 : (recB N text (sig.extract 3 291)).size = 32 := tagB_size _ _
    generalize recB N text (sig.extract 3 291) = x0 at hr hrec hx32
    have hcs := climb_size sig N x0 hx32
    have HRR := Lib.hid hr
    have HRec := Lib.hid hrec
    have HCs := Lib.hid hcs
    have hsz2 : (sig.size : Int) = 291 + 32 * H := by omega
    obtain ⟨q1, q2⟩ := q
    have hq1 : q1 = (N : Int) := hq1
    have hq : q2 = 0 := hq
    subst hq1 hq
    clear hr hrec hcs HN HR
    go_wp2_with fail
    refine (HRec.out w1).mono ?_
    rintro e w2 ⟨rfl, hb2⟩
    have HB2 := Lib.hid (HB1.out.trans (hb2.mono HB1.out.size))
    clear hb2 HRec
    go_wp2_with fail
    go_loopw [7, 9, 12] (fun n nd pa wr => VeRel sig N x0 H w n nd pa wr) (fun _ _ pa _ => strLen pa)
    case atStart => exact ⟨0, Nat.zero_le _, by rw [Nat.pow_zero, Nat.div_one], rfl, rfl, HB2.out⟩
    case round =>
      obtain ⟨j, hj, rfl, rfl, rfl, hbel⟩ := hrel
      have HB := Lib.hid hbel
      clear hbel HB2
      have hpz : (sig.extract (291 + 32 * j) (291 + 32 * H)).size = 32 * (H - j) := by rw [ByteArray.size_extract]; omega
      by_cases hlt : j < H
      · obtain ⟨hne, hne2⟩ := nemp (x := sig.extract (291 + 32 * j) (291 + 32 * H)) (by omega)
        have hA : (sig.extract (291 + 32 * j) (291 + 32 * H)).extract 0 32 = sig.extract (291 + 32 * j) (323 + 32 * j) := ext_ext _ _ _ _ _ _ _ (by omega) (by omega) (by omega)
        have hC : (sig.extract (291 + 32 * j) (291 + 32 * H)).extract 32 (32 * (H - j)) = sig.extract (291 + 32 * (j + 1)) (291 + 32 * H) := ext_ext _ _ _ _ _ _ _ (by omega) (by omega) (by omega)
        have hbs : (sig.extract (291 + 32 * j) (323 + 32 * j)).size = 32 := by rw [ByteArray.size_extract]; omega
        have hcj := HCs.out j
        have hstep : climbN sig N x0 (j + 1) = if N / 2 ^ j % 2 = 0 then tagB 37 [climbN sig N x0 j, sig.extract (291 + 32 * j) (323 + 32 * j)] else tagB 37 [sig.extract (291 + 32 * j) (323 + 32 * j), climbN sig N x0 j] := rfl
        have hnx : N / 2 ^ (j + 1) = N / 2 ^ j / 2 := by rw [Nat.pow_succ, Nat.div_div_eq_div_mul]
        have hnl : N / 2 ^ j < 65536 := Nat.lt_of_le_of_lt (Nat.div_le_self _ _) hN
        have hand := and_1 (N / 2 ^ j) hnl
        have Hst := Lib.hid hstep
        have Hnx := Lib.hid hnx
        have hpz2 : (sig.extract (291 + 32 * (j + 1)) (291 + 32 * H)).size = 32 * (H - (j + 1)) := by rw [ByteArray.size_extract]; omega
        have Hpz2 := Lib.hid hpz2
        have hle1 : ¬ 32 * (H - j) < 32 := by omega
        generalize climbN sig N x0 j = nd at hcj Hst ⊢
        generalize hpx : sig.extract (291 + 32 * j) (291 + 32 * H) = px at hpz hne hne2 hA hC ⊢
        generalize sig.extract (291 + 32 * j) (323 + 32 * j) = bs at hA hbs Hst
        generalize N / 2 ^ j = nj at hand hnl Hst Hnx ⊢
        clear hstep hnx hpz2 hpx
        have hsp : (px.size : Int) = 32 * (H - j : Nat) := by omega
        have hsp1 : (32 : Int) ≤ px.size := by omega
        by_cases hm : nj % 2 = 0
        · have hm2 : ((nj % 2 : Nat) : Int) = 0 := by omega
          have hst := Hst.out
          rw [if_pos hm] at hst
          rw [hm2] at hand
          have Hst2 := Lib.hid hst
          clear hst Hst
          go_wp2_with fail
          refine (tag_two 37 (by decide) nd bs _ (by omega) wr).mono ?_
          rintro e w3 ⟨rfl, hb3⟩
          have HB3 := Lib.hid (HB.out.trans (hb3.mono HB.out.size))
          clear hb3
          go_wp2_with fail
          refine ⟨⟨j + 1, by omega, ?_, ?_, rfl, HB3.out⟩, ?_⟩
          · rw [Hnx.out]; congr 1
          · rw [Hst2.out]
          · show (sig.extract (291 + 32 * (j + 1)) (291 + 32 * H)).size < px.size
            rw [Hpz2.out]
            omega
        · have hm2 : ((nj % 2 : Nat) : Int) = 1 := by omega
          have hst := Hst.out
          rw [if_neg hm] at hst
          rw [hm2] at hand
          have Hst2 := Lib.hid hst
          clear hst Hst
          go_wp2_with fail
          refine (tag_two 37 (by decide) bs nd _ (by omega) wr).mono ?_
          rintro e w3 ⟨rfl, hb3⟩
          have HB3 := Lib.hid (HB.out.trans (hb3.mono HB.out.size))
          clear hb3
          go_wp2_with fail
          refine ⟨⟨j + 1, by omega, ?_, ?_, rfl, HB3.out⟩, ?_⟩
          · rw [Hnx.out]; congr 1
          · rw [Hst2.out]
          · show (sig.extract (291 + 32 * (j + 1)) (291 + 32 * H)).size < px.size
            rw [Hpz2.out]
            omega
      · obtain rfl : j = H := by omega
        have hpe : sig.extract (291 + 32 * j) (291 + 32 * j) = ⟨#[]⟩ := by
          apply ByteArray.ext
          apply Array.eq_empty_of_size_eq_zero
          rw [Nat.sub_self, Nat.mul_zero] at hpz
          exact hpz
        rw [hpe]
        have hem : (ByteArray.toList ⟨#[]⟩ == ByteArray.toList ⟨#[]⟩) = true := by rw [emp_toL]; rfl
        have hem2 : (ByteArray.toList ⟨#[]⟩).isEmpty = true := by rw [emp_toL]; rfl
        have hcj := HCs.out j
        have hnm := named_any j (climbN sig N x0 j) ⟨by omega, by omega⟩ (by rw [hcj]; decide)
        have hcmp := toList_eqbV (tagB 38 [oneB j, climbN sig N x0 j]) want
        have hrr := HRR.out
        generalize climbN sig N x0 j = nd at hnm hcj hcmp hrr ⊢
        generalize tagB 38 [oneB j, nd] = tg at hnm hcmp hrr
        have HNm := Lib.hid hnm
        clear hnm hpz hpe HRR
        by_cases hw : tg = want
        · rw [if_pos hw] at hrr
          rw [decide_eq_true hw] at hcmp
          have Hrr := Lib.hid hrr
          clear hrr hw
          go_wp2_with fail
          refine (HNm.out wr).mono ?_
          rintro e w3 ⟨rfl, hb3⟩
          have HB3 := Lib.hid (HB.out.trans (hb3.mono HB.out.size))
          clear hb3
          go_wp2_with fail
          go_ret
          exact ⟨by rw [Hrr.out]; rfl, HB3.out⟩
        · rw [if_neg hw] at hrr
          rw [decide_eq_false hw] at hcmp
          have Hrr := Lib.hid hrr
          clear hrr hw
          go_wp2_with fail
          refine (HNm.out wr).mono ?_
          rintro e w3 ⟨rfl, hb3⟩
          have HB3 := Lib.hid (HB.out.trans (hb3.mono HB.out.size))
          clear hb3
          go_wp2_with fail
          go_ret
          exact ⟨by rw [Hrr.out]; rfl, HB3.out⟩
  · have hr := HR.out
    rw [if_pos hq] at hr
    have hq0 : (q.2 != 0) = true := bne_iff_ne.2 hq
    have HR := Lib.hid hr
    clear hr
    go_wp2_with fail
    go_ret
    exact ⟨by rw [HR.out]; rfl, HB1.out⟩

def RvRel (sig : ByteArray) (N : Nat) (x0 : ByteArray) (H : Nat) (w : World) (nd h : Value) (wr : World) : Prop :=
  ∃ j : Nat, j ≤ H ∧ h = .int .i64 j ∧ nd = .string (climbN sig N x0 j) ∧ Below w.heap.size w wr

set_option maxRecDepth 100000 in
set_option maxHeartbeats 1000000 in
theorem rverify_any (want text sig : ByteArray) (ht : text.size ≤ 100000000) (w : World) :
    Calls Tryz.prog 153 #[.string want, .string text, .string sig] w fun e w' => e = .returned (.int .i64 (verP want text sig)) ∧ Below w.heap.size w w' := by
  obtain ⟨R, hR⟩ : ∃ R, R = verP want text sig := ⟨_, rfl⟩
  rw [← hR]
  have hK := rknumber_any sig
  have hN : (numK sig).2 = 0 → sig.size = 291 + 32 * byN sig 0 ∧ byN sig 0 ≤ 4 ∧ ∃ v : Nat, v < 65536 ∧ (numK sig).1 = v := by
    unfold numK
    intro h
    split at h
    · exact absurd h (by decide)
    · rename_i hc
      have b1 := byN_lt sig 1
      have b2 := byN_lt sig 2
      rw [if_neg hc]
      exact ⟨by omega, by omega, _, by omega, rfl⟩
  unfold verP at hR
  generalize numK sig = q at hR hK hN
  have HK := Lib.hid hK
  have HN := Lib.hid hN
  have HR := Lib.hid hR
  clear hK hN hR
  go_enter Tryz.func153, Tryz.ntmps153
  go_wp2_with fail
  refine (HK.out w).mono ?_
  rintro e w1 ⟨rfl, hb1⟩
  have HB1 := Lib.hid hb1
  clear hb1 HK
  by_cases hq : q.2 = 0
  · obtain ⟨hz, hh, N, hN, hq1⟩ := HN.out hq
    have hr := HR.out
    rw [if_neg (by rw [hq]; decide), hq1, Int.toNat_natCast] at hr
    have i0 := idx_at sig 0 (by omega)
    rw [show ((0 : Nat) : Int) = 0 from rfl] at i0
    generalize byN sig 0 = H at *
    have hes : (sig.extract 3 291).size = 288 := by rw [ByteArray.size_extract]; omega
    have hrec := rrecover_any N text (sig.extract 3 291) ⟨by omega, by omega⟩ ht hes
    have hx32 : (recB N text (sig.extract 3 291)).size = 32 := tagB_size _ _
    generalize recB N text (sig.extract 3 291) = x0 at hr hrec hx32
    have hcs := climb_size sig N x0 hx32
    have HRR := Lib.hid hr
    have HRec := Lib.hid hrec
    have HCs := Lib.hid hcs
    have hsz2 : (sig.size : Int) = 291 + 32 * H := by omega
    obtain ⟨q1, q2⟩ := q
    have hq1 : q1 = (N : Int) := hq1
    have hq : q2 = 0 := hq
    subst hq1 hq
    clear hr hrec hcs HN HR
    go_wp2_with fail
    refine (HRec.out w1).mono ?_
    rintro e w2 ⟨rfl, hb2⟩
    have HB2 := Lib.hid (HB1.out.trans (hb2.mono HB1.out.size))
    clear hb2 HRec
    go_wp2_with fail
    go_loopw [9, 11] (fun nd h wr => RvRel sig N x0 H w nd h wr) (fun _ h _ => H - (intOf h).toNat)
    case atStart => exact ⟨0, Nat.zero_le _, rfl, rfl, HB2.out⟩
    case round =>
      obtain ⟨j, hj, rfl, rfl, hbel⟩ := hrel
      have HB := Lib.hid hbel
      clear hbel HB2
      by_cases hlt : j < H
      · have hbs : (sig.extract (291 + 32 * j) (323 + 32 * j)).size = 32 := by rw [ByteArray.size_extract]; omega
        have hcj := HCs.out j
        have hstep : climbN sig N x0 (j + 1) = if N / 2 ^ j % 2 = 0 then tagB 37 [climbN sig N x0 j, sig.extract (291 + 32 * j) (323 + 32 * j)] else tagB 37 [sig.extract (291 + 32 * j) (323 + 32 * j), climbN sig N x0 j] := rfl
        have Hst := Lib.hid hstep
        have t1 : (291 + 32 * (j : Int)).toNat = 291 + 32 * j := by omega
        have t2 : (323 + 32 * (j : Int)).toNat = 323 + 32 * j := by omega
        have hlt2 : (j : Int) < H := by omega
        have hle : 323 + 32 * (j : Int) ≤ sig.size := by omega
        generalize climbN sig N x0 j = nd at hcj Hst ⊢
        generalize hbx : sig.extract (291 + 32 * j) (323 + 32 * j) = bs at hbs Hst
        clear hstep
        have hm1 : ((N : Int) / 2 ^ j).tmod 2 = ((N / 2 ^ j % 2 : Nat) : Int) := by
          rw [show (N : Int) / 2 ^ j = ((N / 2 ^ j : Nat) : Int) by push_cast; rfl]
          rfl
        by_cases hm : N / 2 ^ j % 2 = 0
        · have hst := Hst.out
          rw [if_pos hm] at hst
          rw [hm] at hm1
          have hm2 : (((N : Int) / 2 ^ j).tmod 2 == 0) = true := by rw [hm1]; rfl
          have Hst2 := Lib.hid hst
          clear hst Hst hm1
          go_wp2_with fail
          refine (rtag_two 37 (by decide) nd bs _ (by omega) wr).mono ?_
          rintro e w3 ⟨rfl, hb3⟩
          have HB3 := Lib.hid (HB.out.trans (hb3.mono HB.out.size))
          clear hb3
          go_wp2_with fail
          refine ⟨⟨j + 1, by omega, rfl, ?_, HB3.out⟩, ?_⟩
          · rw [Hst2.out]
          · show H - ((j : Int) + 1).toNat < H - (j : Int).toNat
            omega
        · have hst := Hst.out
          rw [if_neg hm] at hst
          have hm3 : N / 2 ^ j % 2 = 1 := by omega
          rw [hm3] at hm1
          have hm2 : (((N : Int) / 2 ^ j).tmod 2 == 0) = false := by rw [hm1]; rfl
          have Hst2 := Lib.hid hst
          clear hst Hst hm1 hm3
          go_wp2_with fail
          refine (rtag_two 37 (by decide) bs nd _ (by omega) wr).mono ?_
          rintro e w3 ⟨rfl, hb3⟩
          have HB3 := Lib.hid (HB.out.trans (hb3.mono HB.out.size))
          clear hb3
          go_wp2_with fail
          refine ⟨⟨j + 1, by omega, rfl, ?_, HB3.out⟩, ?_⟩
          · rw [Hst2.out]
          · show H - ((j : Int) + 1).toNat < H - (j : Int).toNat
            omega
      · obtain rfl : j = H := by omega
        have hcj := HCs.out j
        have hnm := rid_any j (climbN sig N x0 j) ⟨by omega, by omega⟩ (by rw [hcj]; decide)
        have hcmp := toList_eqbV (tagB 38 [oneB j, climbN sig N x0 j]) want
        have hrr := HRR.out
        generalize climbN sig N x0 j = nd at hnm hcj hcmp hrr ⊢
        generalize tagB 38 [oneB j, nd] = tg at hnm hcmp hrr
        have HNm := Lib.hid hnm
        clear hnm HRR
        by_cases hw : tg = want
        · rw [if_pos hw] at hrr
          rw [decide_eq_true hw] at hcmp
          have Hrr := Lib.hid hrr
          clear hrr hw
          go_wp2_with fail
          refine (HNm.out wr).mono ?_
          rintro e w3 ⟨rfl, hb3⟩
          have HB3 := Lib.hid (HB.out.trans (hb3.mono HB.out.size))
          clear hb3
          go_wp2_with fail
          go_ret
          exact ⟨by rw [Hrr.out]; rfl, HB3.out⟩
        · rw [if_neg hw] at hrr
          rw [decide_eq_false hw] at hcmp
          have Hrr := Lib.hid hrr
          clear hrr hw
          go_wp2_with fail
          refine (HNm.out wr).mono ?_
          rintro e w3 ⟨rfl, hb3⟩
          have HB3 := Lib.hid (HB.out.trans (hb3.mono HB.out.size))
          clear hb3
          go_wp2_with fail
          go_ret
          exact ⟨by rw [Hrr.out]; rfl, HB3.out⟩
  · have hr := HR.out
    rw [if_pos hq] at hr
    have hq0 : (q.2 != 0) = true := bne_iff_ne.2 hq
    have HR := Lib.hid hr
    clear hr
    go_wp2_with fail
    go_ret
    exact ⟨by rw [HR.out]; rfl, HB1.out⟩
end Go.Proofs.YtmejjphliaiamaaGreatDoor
