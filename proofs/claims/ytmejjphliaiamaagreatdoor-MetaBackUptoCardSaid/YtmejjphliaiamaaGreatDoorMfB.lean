import Derived.Test.YtmejjphliaiamaaGreatDoorMeY
import Derived.Test.YtmejjphliaiamaaGreatDoorMeV
set_option linter.unusedVariables false
set_option linter.unusedSimpArgs false
namespace Go.Proofs.YtmejjphliaiamaaGreatDoor
open Go Go.RowKit Go.Lib

/-! ### a set taken -/
theorem OwnS.txm {w : World} {base : Nat} {v : Value} {L : List ByteArray} (h : OwnS w base v L) : ∃ ad cap, v = .slice ad L.length cap ∧ TxM w ad L := by
  obtain ⟨ao, cap, hv, -, -, h2⟩ := OwnL.form h
  refine ⟨ao, cap, hv, fun i f hf => ?_⟩
  have hi : i < L.length := (List.getElem?_eq_some_iff.1 hf).1
  obtain ⟨g, hg, -, -, hc⟩ := h2 (by omega)
  have e1 : (L.flatMap (fun s : ByteArray => [Value.string s]))[i]? = some (.string f) := by
    have e2 : L.flatMap (fun s : ByteArray => [Value.string s]) = L.map Value.string := by
      clear hc hf h2 h hv hi
      induction L with
      | nil => rfl
      | cons x r ih => rw [List.flatMap_cons, List.map_cons, ih]; rfl
    rw [e2, List.getElem?_map, hf]
    rfl
  refine ⟨g, 0, hg, ?_⟩
  rw [Nat.zero_add, hc _ (by omega)]
  exact e1
def takeIN (r : RS) : Nat → List ByteArray × RS
  | 0 => ([], r)
  | k + 1 => ((takeIN r k).1 ++ [(rRaw (takeIN r k).2 32).1], (rRaw (takeIN r k).2 32).2)
theorem takeIN_size (r : RS) : ∀ k, (takeIN r k).2.1.size ≤ r.1.size
  | 0 => Nat.le_refl _
  | k + 1 => Nat.le_trans (rRaw_size _ _).2 (takeIN_size r k)
theorem takeIN_len (r : RS) : ∀ k, (takeIN r k).1.length = k
  | 0 => rfl
  | k + 1 => by show ((takeIN r k).1 ++ [_]).length = k + 1; rw [List.length_append, takeIN_len r k]; rfl
def tsA (r : RS) : List ByteArray × RS := takeIN (rNum r 1).2 (rNum r 1).1.toNat
def tsB (r : RS) : Int × RS := rNum (tsA r).2 1
def tsF (r : RS) : RS := if setGood ((tsA r).1, (tsB r).1) = true then (tsB r).2 else rFail (tsB r).2 3
def takeSetP (r : RS) : SetT × RS := (if (tsF r).2 = 0 then ((tsA r).1, (tsB r).1) else ([], 0), tsF r)
theorem tsF_size (r : RS) : (tsA r).2.1.size ≤ r.1.size ∧ (tsB r).2.1.size ≤ r.1.size ∧ (tsF r).1.size ≤ r.1.size := by
  have h1 : (rNum r 1).2.1.size ≤ r.1.size := (rRaw_size r 1).2
  have h2 : (tsA r).2.1.size ≤ (rNum r 1).2.1.size := takeIN_size _ _
  have h3 : (tsB r).2.1.size ≤ (tsA r).2.1.size := (rRaw_size _ 1).2
  refine ⟨by omega, by omega, ?_⟩
  unfold tsF
  split
  · omega
  · rw [rFail_size]; omega
def TqPost (b : Nat) (q : SetT × RS) (w : World) (e : Ending) (w' : World) : Prop := ∃ ad c, e = .returned (.agg #[.slice ad q.1.1.length c, .int .i64 q.1.2]) ∧ OwnS w' w.heap.size (.slice ad q.1.1.length c) q.1.1 ∧ RdP 136 b q.2 w w'
theorem keep_cell0 {wr w1 : World} {a : Addr} {v v' : Value} {o : Obj} (c : wr.cell? a = some v) (hg : (wr.alloc o).grownBy w1 v'.ownBlock) (hne : v'.ownBlock ≠ some a.block) : w1.cell? a = some v :=
  ((World.grownBy.cell_far hg) a (show a.block < (wr.alloc o).heap.size by rw [size_alloc]; exact Nat.lt_succ_of_lt (cell_lt c)) (fun e => hne e.symm)).trans (cell_alloc c o)
theorem keep_free0 {wr w1 : World} {a : Addr} {v v' : Value} {o : Obj} (c : wr.cell? a = some v) (f : wr.frozen? a = false) (hg : (wr.alloc o).grownBy w1 v'.ownBlock) (hne : v'.ownBlock ≠ some a.block) : w1.frozen? a = false :=
  ((World.grownBy.frozen_far hg) a (show a.block < (wr.alloc o).heap.size by rw [size_alloc]; exact Nat.lt_succ_of_lt (cell_lt c)) (fun e => hne e.symm)).trans (free_alloc c f o)
structure TqS (w : World) (b : Nat) (L : List ByteArray) (r : RS) (wr : World) : Prop where
  ex : ∃ ad cap, OwnS wr (w.heap.size + 2) (.slice ad L.length cap) L ∧ wr.heap[w.heap.size + 1]? = some (.cells #[.slice ad L.length cap, .int .i64 0] 24 (0, 0))
  out : wr.heap[w.heap.size]? = some (.cells #[.slice none 0 0, .int .i64 0] 24 (0, 0))
  rd : RdP 136 b r w wr
def TqRel (w : World) (b : Nat) (r : RS) (n : Nat) (i : Value) (wr : World) : Prop := ∃ k : Nat, k ≤ n ∧ i = .int .i64 k ∧ TqS w b (takeIN r k).1 (takeIN r k).2 wr
theorem TqS.step {w : World} {b : Nat} {L : List ByteArray} {r r' : RS} {wr w' : World} (H : TqS w b L r wr) (hb : b < w.heap.size) (k : RdP 136 b r' wr w') : TqS w b L r' w' := by
  obtain ⟨ad, cap, ho, hx⟩ := H.ex
  exact ⟨⟨ad, cap, OwnL.kp ho k.2 (fun g hg => by have := (OwnL.lt ho g hg).1; omega), blk_kp hx k.2 (by omega)⟩, blk_kp H.out k.2 (by omega), k.1, H.rd.2.trans k.2⟩
theorem set_ret {fn : Func} {Q : Ending → World → Prop} (a : Act) (w : World) (b : Nat) (ad : Option Addr) (n c : Nat) (need : Int) (h : w.heap[b]? = some (.cells #[.slice ad n c, .int .i64 need] 24 (0, 0)))
    (hf : fn.results = #[.cell 2 24])
    (ha : a.tmps[2]?.getD undef = .pointer (some ⟨b, 0, none⟩)) (hd : a.defers = []) (hQ : Q (.returned (.agg #[.slice ad n c, .int .i64 need])) w) :
    bodyPost Tryz.prog fn Q Exit.ret a w := by
  have c0 := cell_of_blk h 0 (v := .slice ad n c) rfl
  have c1 := cell_of_blk h 1 (v := .int .i64 need) rfl
  refine bodyPost_ret (v := .agg #[.slice ad n c, .int .i64 need]) (by simp only [results, hf]; simp [go_sem, c0, c1, ha]) hd hQ

set_option maxRecDepth 100000 in
set_option maxHeartbeats 2000000 in
theorem taketq_any (b : Nat) (r : RS) (w : World) (hs : r.1.size ≤ 1000000000) (h : Rdr 136 w b r) :
    Calls Tryz.prog 150 #[.pointer (some ⟨b, 0, none⟩)] w (TqPost b (takeSetP r) w) := by
  have hbw : b < w.heap.size := (Array.getElem?_eq_some_iff.1 h).1
  obtain ⟨n, hn, hn255⟩ := rNum1 r
  have hz1 : (rNum r 1).2.1.size ≤ r.1.size := (rRaw_size r 1).2
  obtain ⟨w2, hw2⟩ : ∃ w2, w2 = (w.alloc (.cells #[.slice none 0 0, .int .i64 0] 24)).alloc (.cells #[.slice none 0 0, .int .i64 0] 24) := ⟨_, rfl⟩
  have ho2 : w2.heap[w.heap.size]? = some (.cells #[.slice none 0 0, .int .i64 0] 24 (0, 0)) := by rw [hw2]; exact blk_new1 _ _ _
  have hx2 : w2.heap[w.heap.size + 1]? = some (.cells #[.slice none 0 0, .int .i64 0] 24 (0, 0)) := by rw [hw2]; exact blk_new2 _ _ _
  have hk2 : Kp (fun k => k = b) w w2 := by rw [hw2]; exact ((Kp.refl _ w).alloc _).alloc _
  have hr2 : Rdr 136 w2 b r := by rw [hw2]; exact blk_alloc (blk_alloc h _) _
  have HC := Lib.hid (r1_any b r w2 (by omega) hr2)
  have hI2 : TqS w b [] r w2 := ⟨⟨none, 0, ownL_nil _ _, hx2⟩, ho2, hr2, hk2⟩
  have HI2 := Lib.hid hI2
  have hA : tsA r = takeIN (rNum r 1).2 n := by unfold tsA; rw [hn]; rfl
  have hB : tsB r = rNum (tsA r).2 1 := rfl
  have hF : tsF r = if setGood ((tsA r).1, (tsB r).1) = true then (tsB r).2 else rFail (tsB r).2 3 := rfl
  have hP : takeSetP r = (if (tsF r).2 = 0 then ((tsA r).1, (tsB r).1) else ([], 0), tsF r) := rfl
  obtain ⟨zA, zB, zF⟩ := tsF_size r
  have hlA : (tsA r).1.length = n := by rw [hA, takeIN_len]
  rw [hn] at HC
  unfold TqPost
  generalize takeSetP r = q at hP ⊢
  generalize tsF r = rF at *
  generalize tsB r = B at *
  generalize tsA r = A at *
  generalize (rNum r 1).2 = r1 at *
  have HA := Lib.hid hA
  have HB := Lib.hid hB
  have HF := Lib.hid hF
  have HP := Lib.hid hP
  have HLA := Lib.hid hlA
  clear h hn ho2 hx2 hk2 hr2 hI2 hA hB hF hP hlA
  go_enter Tryz.func150, Tryz.ntmps150
  go_wp2_with fail
  rw [← hw2]
  clear hw2
  refine HC.out.mono ?_
  rintro e w3 ⟨rfl, h3⟩
  have HI3 := Lib.hid (HI2.out.step hbw h3)
  clear h3 HC HI2
  go_wp2_with fail
  go_loopw [6] (fun i wr => TqRel w b r1 n i wr) (fun i _ => n - (intOf i).toNat)
  case atStart => exact ⟨0, Nat.zero_le _, rfl, HI3.out⟩
  case round =>
    clear HI3
    obtain ⟨k, hk, rfl, hI⟩ := hrel
    have HI := Lib.hid hI
    have hsz := takeIN_size r1 k
    have hln := Lib.hid (takeIN_len r1 k)
    have hwle : w.heap.size + 2 ≤ wr.heap.size := by obtain ⟨ad, cap, -, hx⟩ := hI.ex; have := (Array.getElem?_eq_some_iff.1 hx).1; omega
    clear hI
    by_cases hlt : k < n
    case pos =>
      have ht1 : (takeIN r1 (k + 1)).1 = (takeIN r1 k).1 ++ [(rRaw (takeIN r1 k).2 32).1] := rfl
      have ht2 : (takeIN r1 (k + 1)).2 = (rRaw (takeIN r1 k).2 32).2 := rfl
      have HT1 := Lib.hid ht1
      have HT2 := Lib.hid ht2
      have hk0 : (k : Int) < (n : Int) := by omega
      clear ht1 ht2
      generalize (takeIN r1 k).2 = ra at HI HT1 HT2 hsz
      generalize (takeIN r1 k).1 = L at HI HT1 hln
      have HC1 := Lib.hid (rhash_any b ra wr.drew (by omega) HI.out.rd.1)
      generalize rRaw ra 32 = C at HC1 HT1 HT2
      obtain ⟨ad, cap, ho, hx⟩ := HI.out.ex
      have HO := Lib.hid ho
      have HX := Lib.hid hx
      have c0 := cell_of_blk hx 0 (v := .slice ad L.length cap) rfl
      have f0 := free_of_blk hx 0
      have hne : (Value.slice ad L.length cap).ownBlock ≠ some (w.heap.size + 1) := fun h => by have := (OwnL.lt ho _ h).1; omega
      obtain ⟨i0, hi, hz0, hz1', hz2'⟩ := info_parts infoStr
      have HI2 := Lib.hid hz2'
      clear hz2' ho hx
      go_wp2_with fail
      go_region_law ((first
        | (refine step_appL (by rfl) _ _ 22 (by rfl) i0 (.string ⟨#[]⟩) 16 Tryz.underlying22 hi hz0 hz1' HI2.out rfl (by decide) (w.heap.size + 2) (.slice ad L.length cap) L (by rfl) ((OwnL.kp HO.out k4 (fun g hg => by have := (OwnL.lt HO.out g hg).1; omega)).alloc _) C.1 rfl ⟨w4.heap.size, 0, none⟩ 1 (by rfl) (one_str w4 C.1 _) (by intro u hu; simp at hu; subst hu; rfl) (by have := hln.out; omega) (by decide) (by have := k4.size; simp; omega) ?_; intro v' w8 ho8 hg8 hv8; obtain ⟨ao8, cap8, rfl, -, -, -⟩ := OwnL.form ho8; have e0 := keep_cell0 d0 hg8 hne; have e1 := keep_free0 d0 g0 hg8 hne)
        | (go_simp; go_at_call 117; refine HC1.out.mono ?_; rintro e w4 ⟨rfl, h4⟩; have k4 : Kp (fun k => k = b) wr w4 := (Kp.refl (fun k => k = b) wr).drew.trans h4.2; have d0 := cell_of_blk (blk_kp HX.out k4 (by omega)) 0 (v := .slice ad L.length cap) rfl; have g0 := free_of_blk (blk_kp HX.out k4 (by omega)) 0; have d0a := fun o => cell_alloc d0 o)))
      all_goals
        have hown := OwnL.lt HO.out
        have k8 : Kp (fun k => (Value.slice ad L.length cap).ownBlock = some k) w4 w8 := ((Kp.refl (fun k => (Value.slice ad L.length cap).ownBlock = some k) w4).alloc _).grown hg8 (fun k h => .inl h)
        have k9 : Kp (fun k => k = w.heap.size + 1) w8 (w8.setCell ⟨w.heap.size + 1, 0, none⟩ (.slice ao8 (L ++ [C.1]).length cap8)) := (Kp.refl (fun k => k = w.heap.size + 1) w8).setCell (p := ⟨w.heap.size + 1, 0, none⟩) (.inl rfl) _
        have hI9 : TqS w b (L ++ [C.1]) C.2 (w8.setCell ⟨w.heap.size + 1, 0, none⟩ (.slice ao8 (L ++ [C.1]).length cap8)) := by
          refine ⟨⟨ao8, cap8, OwnL.kp ho8 k9 (fun g hg => by have := (OwnL.lt ho8 g hg).1; omega), blk_set (blk_kp (blk_kp HX.out k4 (by omega)) k8 (fun h => hne h)) _⟩, ?_, ?_, ?_⟩
          · exact blk_kp (blk_kp (blk_kp HI.out.out k4 (by omega)) k8 (fun h => by have := (hown _ h).1; omega)) k9 (by omega)
          · exact blk_kp (blk_kp h4.1 k8 (fun h => by have := (hown _ h).1; omega)) k9 (by omega)
          · exact ((HI.out.rd.2.trans k4).trans' k8 (fun i hi => .inr (by have := (hown i hi).1; omega))).trans' k9 (fun i hi => .inr (by omega))
        have HI9 := Lib.hid hI9
        have hll : (L ++ [C.1]).length = L.length + 1 := by rw [List.length_append]; rfl
        clear hown k8 k9 hI9 ho8 hg8 hv8 e0 e1 d0 g0 d0a h4 k4 c0 f0
        go_wp2_with fail
        refine ⟨⟨k + 1, hlt, rfl, ?_⟩, ?_⟩
        · rw [HT1.out, HT2.out, ← hll]
          exact HI9.out
        · show n - ((k : Int) + 1).toNat < n - (k : Int).toNat
          omega
    case neg =>
      obtain rfl : k = n := by omega
      have hI := HI.out
      rw [← HA.out] at hI
      have c2 := r1_any b A.2 wr (by omega) hI.rd.1
      rw [← HB.out] at c2
      have HC2 := Lib.hid c2
      obtain ⟨ad, cap, ho, hx⟩ := hI.ex
      have HO := Lib.hid ho
      have HX := Lib.hid hx
      have HIo := Lib.hid hI.out
      have HIr := Lib.hid hI.rd
      clear c2 ho hx hI HI hln hsz
      go_wp2_with fail
      refine HC2.out.mono ?_
      rintro e w4 ⟨rfl, k4⟩
      have hx4 := blk_kp HX.out k4.2 (by omega)
      have x0 := cell_of_blk hx4 0 (v := .slice ad A.1.length cap) rfl
      have x1 := cell_of_blk hx4 1 (v := .int .i64 0) rfl
      have xf1 := free_of_blk hx4 1
      have k5 : Kp (fun k => k = w.heap.size + 1) w4 (w4.setCell ⟨w.heap.size + 1, 1, none⟩ (.int .i64 B.1)) := (Kp.refl (fun k => k = w.heap.size + 1) w4).setCell (p := ⟨w.heap.size + 1, 1, none⟩) (.inl rfl) _
      have H5 : Hid (OwnS (w4.setCell ⟨w.heap.size + 1, 1, none⟩ (.int .i64 B.1)) (w.heap.size + 2) (.slice ad A.1.length cap) A.1 ∧ (w4.setCell ⟨w.heap.size + 1, 1, none⟩ (.int .i64 B.1)).heap[w.heap.size + 1]? = some (.cells #[.slice ad A.1.length cap, .int .i64 B.1] 24 (0, 0)) ∧ (w4.setCell ⟨w.heap.size + 1, 1, none⟩ (.int .i64 B.1)).heap[w.heap.size]? = some (.cells #[.slice none 0 0, .int .i64 0] 24 (0, 0)) ∧ RdP 136 b B.2 w (w4.setCell ⟨w.heap.size + 1, 1, none⟩ (.int .i64 B.1))) := by
        refine Lib.hid ⟨OwnL.kp (OwnL.kp HO.out k4.2 (fun g hg => by have := (OwnL.lt HO.out g hg).1; omega)) k5 (fun g hg => by have := (OwnL.lt HO.out g hg).1; omega), blk_set hx4 _, blk_kp (blk_kp HIo.out k4.2 (by omega)) k5 (by omega), ⟨blk_kp k4.1 k5 (by omega), (HIr.out.2.trans k4.2).trans' k5 (fun i hi => .inr (by omega))⟩⟩
      clear hx4 k5 k4 HO HX HIo HIr HC2
      go_wp2_with fail
      clear x0 x1 xf1
      generalize w4.setCell ⟨w.heap.size + 1, 1, none⟩ (.int .i64 B.1) = w5 at H5 ⊢
      obtain ⟨a2, c2, hv2, htx⟩ := OwnS.txm H5.out.1
      cases hv2
      have hq := qcheck_any ⟨ad, A.1.length, cap, B.1⟩ (A.1, B.1) w5 ⟨rfl, rfl, htx⟩ (by show A.1.length ≤ 100000000; have := HLA.out; omega)
      dsimp only at hq
      generalize setGood (A.1, B.1) = g at hq HF
      have HQ := Lib.hid hq
      clear hq htx
      cases g with
      | true =>
        obtain rfl : rF = B.2 := by rw [HF.out, if_pos rfl]
        refine HQ.out.mono ?_
        rintro e w7 ⟨rfl, hb7⟩
        have H7 : Hid (OwnS w7 (w.heap.size + 2) (.slice ad A.1.length cap) A.1 ∧ w7.heap[w.heap.size + 1]? = some (.cells #[.slice ad A.1.length cap, .int .i64 B.1] 24 (0, 0)) ∧ w7.heap[w.heap.size]? = some (.cells #[.slice none 0 0, .int .i64 0] 24 (0, 0)) ∧ RdP 136 b B.2 w w7) :=
          Lib.hid ⟨OwnL.below H5.out.1 hb7, blk_later H5.out.2.1 hb7, blk_later H5.out.2.2.1 hb7, blk_later H5.out.2.2.2.1 hb7, H5.out.2.2.2.2.below hb7⟩
        clear hb7 H5 HQ
        have ee : chkE true = 0 := rfl
        rw [ee]
        go_wp2_with fail
        refine (err_any b B.2 w7 H7.out.2.2.2.1).mono ?_
        rintro e w8 ⟨rfl, rfl⟩
        by_cases he : B.2.2 = 0
        · have b1 : (B.2.2 == 0) = true := beq_iff_eq.2 he
          have b2 : (B.2.2 != 0) = false := by rw [bne, b1]; rfl
          obtain rfl : q = ((A.1, B.1), B.2) := by rw [HP.out, if_pos he]
          have x0 := cell_of_blk H7.out.2.1 0 (v := .slice ad A.1.length cap) rfl
          have x1 := cell_of_blk H7.out.2.1 1 (v := .int .i64 B.1) rfl
          have o0 := cell_of_blk H7.out.2.2.1 0 (v := .slice none 0 0) rfl
          have o1 := cell_of_blk H7.out.2.2.1 1 (v := .int .i64 0) rfl
          have fo0 := free_of_blk H7.out.2.2.1 0
          have fo1 := free_of_blk H7.out.2.2.1 1
          have k8 : Kp (fun k => k = w.heap.size) w7 ((w7.setCell ⟨w.heap.size, 0, none⟩ (.slice ad A.1.length cap)).setCell ⟨w.heap.size, 1, none⟩ (.int .i64 B.1)) := ((Kp.refl (fun k => k = w.heap.size) w7).setCell (p := ⟨w.heap.size, 0, none⟩) (.inl rfl) _).setCell (p := ⟨w.heap.size, 1, none⟩) (.inl rfl) _
          have hret : ((w7.setCell ⟨w.heap.size, 0, none⟩ (.slice ad A.1.length cap)).setCell ⟨w.heap.size, 1, none⟩ (.int .i64 B.1)).heap[w.heap.size]? = some (.cells #[.slice ad A.1.length cap, .int .i64 B.1] 24 (0, 0)) := blk_set (blk_set H7.out.2.2.1 _) _
          have HRet := Lib.hid hret
          have HO8 := Lib.hid (OwnL.base (OwnL.kp H7.out.1 k8 (fun g hg => by have := (OwnL.lt H7.out.1 g hg).1; omega)) (base' := w.heap.size) (fun g hg => by have := (OwnL.lt H7.out.1 g hg).1; omega))
          have HR8 : Hid (RdP 136 b B.2 w _) := Lib.hid ⟨blk_kp H7.out.2.2.2.1 k8 (by omega), H7.out.2.2.2.2.trans' k8 (fun i hi => .inr (by omega))⟩
          clear hret k8 he
          go_wp2_with fail
          exact set_ret _ _ w.heap.size ad A.1.length cap B.1 HRet.out rfl rfl rfl ⟨ad, cap, rfl, HO8.out, HR8.out⟩
        · have b1 : (B.2.2 == 0) = false := beq_eq_false_iff_ne.2 he
          have b2 : (B.2.2 != 0) = true := by rw [bne, b1]; rfl
          obtain rfl : q = (([], 0), B.2) := by rw [HP.out, if_neg he]
          have o0 := cell_of_blk H7.out.2.2.1 0 (v := .slice none 0 0) rfl
          have o1 := cell_of_blk H7.out.2.2.1 1 (v := .int .i64 0) rfl
          have fo0 := free_of_blk H7.out.2.2.1 0
          have fo1 := free_of_blk H7.out.2.2.1 1
          have k8 : Kp (fun k => k = w.heap.size) w7 ((w7.setCell ⟨w.heap.size, 0, none⟩ (.slice none 0 0)).setCell ⟨w.heap.size, 1, none⟩ (.int .i64 0)) := ((Kp.refl (fun k => k = w.heap.size) w7).setCell (p := ⟨w.heap.size, 0, none⟩) (.inl rfl) _).setCell (p := ⟨w.heap.size, 1, none⟩) (.inl rfl) _
          have hret : ((w7.setCell ⟨w.heap.size, 0, none⟩ (.slice none 0 0)).setCell ⟨w.heap.size, 1, none⟩ (.int .i64 0)).heap[w.heap.size]? = some (.cells #[.slice none 0 0, .int .i64 0] 24 (0, 0)) := blk_set (blk_set H7.out.2.2.1 _) _
          have HRet := Lib.hid hret
          have HR8 : Hid (RdP 136 b B.2 w _) := Lib.hid ⟨blk_kp H7.out.2.2.2.1 k8 (by omega), H7.out.2.2.2.2.trans' k8 (fun i hi => .inr (by omega))⟩
          clear hret k8 he
          go_wp2_with fail
          exact set_ret _ _ w.heap.size none 0 0 0 HRet.out rfl rfl rfl ⟨none, 0, rfl, ownL_nil _ _, HR8.out⟩
      | false =>
        obtain rfl : rF = rFail B.2 3 := by rw [HF.out]; exact if_neg (by decide)
        refine HQ.out.mono ?_
        rintro e w6 ⟨rfl, hb7⟩
        have H6 : Hid (OwnS w6 (w.heap.size + 2) (.slice ad A.1.length cap) A.1 ∧ w6.heap[w.heap.size + 1]? = some (.cells #[.slice ad A.1.length cap, .int .i64 B.1] 24 (0, 0)) ∧ w6.heap[w.heap.size]? = some (.cells #[.slice none 0 0, .int .i64 0] 24 (0, 0)) ∧ RdP 136 b B.2 w w6) :=
          Lib.hid ⟨OwnL.below H5.out.1 hb7, blk_later H5.out.2.1 hb7, blk_later H5.out.2.2.1 hb7, blk_later H5.out.2.2.2.1 hb7, H5.out.2.2.2.2.below hb7⟩
        clear hb7 H5 HQ
        have ee : chkE false = 1 := rfl
        rw [ee]
        go_wp2_with fail
        refine (fail_any b B.2 3 w6 H6.out.2.2.2.1).mono ?_
        rintro e w7 ⟨rfl, k7⟩
        have H7 : Hid (OwnS w7 (w.heap.size + 2) (.slice ad A.1.length cap) A.1 ∧ w7.heap[w.heap.size + 1]? = some (.cells #[.slice ad A.1.length cap, .int .i64 B.1] 24 (0, 0)) ∧ w7.heap[w.heap.size]? = some (.cells #[.slice none 0 0, .int .i64 0] 24 (0, 0)) ∧ RdP 136 b (rFail B.2 3) w w7) :=
          Lib.hid ⟨OwnL.kp H6.out.1 k7.2 (fun g hg => by have := (OwnL.lt H6.out.1 g hg).1; omega), blk_kp H6.out.2.1 k7.2 (by omega), blk_kp H6.out.2.2.1 k7.2 (by omega), k7.1, H6.out.2.2.2.2.trans k7.2⟩
        clear k7 H6
        go_wp2_with fail
        refine (err_any b (rFail B.2 3) w7 H7.out.2.2.2.1).mono ?_
        rintro e w8 ⟨rfl, rfl⟩
        by_cases he : (rFail B.2 3).2 = 0
        · have b1 : ((rFail B.2 3).2 == 0) = true := beq_iff_eq.2 he
          have b2 : ((rFail B.2 3).2 != 0) = false := by rw [bne, b1]; rfl
          obtain rfl : q = ((A.1, B.1), (rFail B.2 3)) := by rw [HP.out, if_pos he]
          have x0 := cell_of_blk H7.out.2.1 0 (v := .slice ad A.1.length cap) rfl
          have x1 := cell_of_blk H7.out.2.1 1 (v := .int .i64 B.1) rfl
          have o0 := cell_of_blk H7.out.2.2.1 0 (v := .slice none 0 0) rfl
          have o1 := cell_of_blk H7.out.2.2.1 1 (v := .int .i64 0) rfl
          have fo0 := free_of_blk H7.out.2.2.1 0
          have fo1 := free_of_blk H7.out.2.2.1 1
          have k8 : Kp (fun k => k = w.heap.size) w7 ((w7.setCell ⟨w.heap.size, 0, none⟩ (.slice ad A.1.length cap)).setCell ⟨w.heap.size, 1, none⟩ (.int .i64 B.1)) := ((Kp.refl (fun k => k = w.heap.size) w7).setCell (p := ⟨w.heap.size, 0, none⟩) (.inl rfl) _).setCell (p := ⟨w.heap.size, 1, none⟩) (.inl rfl) _
          have hret : ((w7.setCell ⟨w.heap.size, 0, none⟩ (.slice ad A.1.length cap)).setCell ⟨w.heap.size, 1, none⟩ (.int .i64 B.1)).heap[w.heap.size]? = some (.cells #[.slice ad A.1.length cap, .int .i64 B.1] 24 (0, 0)) := blk_set (blk_set H7.out.2.2.1 _) _
          have HRet := Lib.hid hret
          have HO8 := Lib.hid (OwnL.base (OwnL.kp H7.out.1 k8 (fun g hg => by have := (OwnL.lt H7.out.1 g hg).1; omega)) (base' := w.heap.size) (fun g hg => by have := (OwnL.lt H7.out.1 g hg).1; omega))
          have HR8 : Hid (RdP 136 b (rFail B.2 3) w _) := Lib.hid ⟨blk_kp H7.out.2.2.2.1 k8 (by omega), H7.out.2.2.2.2.trans' k8 (fun i hi => .inr (by omega))⟩
          clear hret k8 he
          go_wp2_with fail
          exact set_ret _ _ w.heap.size ad A.1.length cap B.1 HRet.out rfl rfl rfl ⟨ad, cap, rfl, HO8.out, HR8.out⟩
        · have b1 : ((rFail B.2 3).2 == 0) = false := beq_eq_false_iff_ne.2 he
          have b2 : ((rFail B.2 3).2 != 0) = true := by rw [bne, b1]; rfl
          obtain rfl : q = (([], 0), (rFail B.2 3)) := by rw [HP.out, if_neg he]
          have o0 := cell_of_blk H7.out.2.2.1 0 (v := .slice none 0 0) rfl
          have o1 := cell_of_blk H7.out.2.2.1 1 (v := .int .i64 0) rfl
          have fo0 := free_of_blk H7.out.2.2.1 0
          have fo1 := free_of_blk H7.out.2.2.1 1
          have k8 : Kp (fun k => k = w.heap.size) w7 ((w7.setCell ⟨w.heap.size, 0, none⟩ (.slice none 0 0)).setCell ⟨w.heap.size, 1, none⟩ (.int .i64 0)) := ((Kp.refl (fun k => k = w.heap.size) w7).setCell (p := ⟨w.heap.size, 0, none⟩) (.inl rfl) _).setCell (p := ⟨w.heap.size, 1, none⟩) (.inl rfl) _
          have hret : ((w7.setCell ⟨w.heap.size, 0, none⟩ (.slice none 0 0)).setCell ⟨w.heap.size, 1, none⟩ (.int .i64 0)).heap[w.heap.size]? = some (.cells #[.slice none 0 0, .int .i64 0] 24 (0, 0)) := blk_set (blk_set H7.out.2.2.1 _) _
          have HRet := Lib.hid hret
          have HR8 : Hid (RdP 136 b (rFail B.2 3) w _) := Lib.hid ⟨blk_kp H7.out.2.2.2.1 k8 (by omega), H7.out.2.2.2.2.trans' k8 (fun i hi => .inr (by omega))⟩
          clear hret k8 he
          go_wp2_with fail
          exact set_ret _ _ w.heap.size none 0 0 0 HRet.out rfl rfl rfl ⟨none, 0, rfl, ownL_nil _ _, HR8.out⟩
end Go.Proofs.YtmejjphliaiamaaGreatDoor
