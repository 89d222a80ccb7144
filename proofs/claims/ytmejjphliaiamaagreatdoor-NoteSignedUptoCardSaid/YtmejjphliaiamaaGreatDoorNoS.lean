import Derived.Test.YtmejjphliaiamaaGreatDoorNoR
import Derived.Test.YtmejjphliaiamaaGreatDoorNoL
import Derived.Test.YtmejjphliaiamaaGreatDoorNoQ
set_option linter.unusedVariables false
set_option linter.unusedSimpArgs false
namespace Go.Proofs.YtmejjphliaiamaaGreatDoor
open Go Go.RowKit Go.Lib Go.Shelf
attribute [local go_sem] Oper.semAt_some

/-! ### note.Read -/
def TakeSt (pre : List ByteArray) (L : List SigT) : Prop := (∀ r, takeS 0 (pre ++ r) = L ++ takeS pre.length r) ∧ L.length = pre.length ∧ pre.length ≤ 16
def TakeEnd (pre : List ByteArray) (L : List SigT) : Prop := (∀ r, takeS 0 (pre ++ r) = L) ∧ L.length ≤ 17
theorem takeSt_nil : TakeSt [] [] := ⟨fun r => rfl, rfl, by decide⟩
theorem TakeSt.stop {pre : List ByteArray} {L : List SigT} (h : TakeSt pre L) {x : ByteArray} (hx : x.size = 0) : TakeEnd (pre ++ [x]) L := by
  refine ⟨fun r => ?_, by have := h.2; omega⟩
  rw [List.append_assoc, h.1]
  show L ++ takeS pre.length (x :: r) = L
  rw [takeS, if_pos hx, List.append_nil]
theorem TakeSt.last {pre : List ByteArray} {L : List SigT} (h : TakeSt pre L) {x : ByteArray} (hx : x.size ≠ 0) (hl : 16 < L.length + 1) : TakeEnd (pre ++ [x]) (L ++ [lineSig x]) := by
  refine ⟨fun r => ?_, by rw [List.length_append, List.length_singleton]; have := h.2; omega⟩
  rw [List.append_assoc, h.1]
  show L ++ takeS pre.length (x :: r) = _
  rw [takeS, if_neg hx, if_pos (by have := h.2.1; omega)]
theorem TakeSt.go {pre : List ByteArray} {L : List SigT} (h : TakeSt pre L) {x : ByteArray} (hx : x.size ≠ 0) (hl : ¬ 16 < L.length + 1) : TakeSt (pre ++ [x]) (L ++ [lineSig x]) := by
  refine ⟨fun r => ?_, by rw [List.length_append, List.length_append, h.2.1]; rfl, by rw [List.length_append, List.length_singleton]; have := h.2.1; omega⟩
  rw [List.append_assoc, h.1]
  show L ++ takeS pre.length (x :: r) = _
  rw [takeS, if_neg hx, if_neg (by have := h.2.1; omega), List.append_assoc, List.length_append, List.length_singleton]
  rfl
theorem TakeSt.done {pre : List ByteArray} {L : List SigT} (h : TakeSt pre L) : takeS 0 pre = L := by
  have := h.1 []
  rwa [List.append_nil, takeS, List.append_nil] at this
theorem TakeEnd.done {pre xs : List ByteArray} {L : List SigT} (h : TakeEnd pre L) (hp : pre <+: xs) : takeS 0 xs = L := by
  obtain ⟨r, rfl⟩ := hp
  exact h.1 r

/-- between two rounds. -/
structure RdI (w W0 : World) (tx : ByteArray) (W : World) (v : Value) (L : List SigT) : Prop where
  n : W.heap[w.heap.size + 1]? = some (.cells #[.string tx, v] 69 (0, 0))
  own : OwnG W (W0.heap.size + 2) v L
  r : W.heap[w.heap.size]? = some (.cells #[.string ⟨#[]⟩, .slice none 0 0] 69 (0, 0))
  below : Below w.heap.size w W
  size : W0.heap.size ≤ W.heap.size
theorem RdI.kp {w W0 : World} {tx : ByteArray} {A B : World} {v : Value} {L : List SigT} (h : RdI w W0 tx A v L) (hw : W0.heap.size = w.heap.size + 5) (k : Kp (LoopBk (fun k => k = w.heap.size + 2) W0) A B) : RdI w W0 tx B v L :=
  ⟨blk_kp h.n k (by unfold LoopBk; omega), OwnL.kp h.own k (fun g hg => by have := (OwnL.lt h.own g hg).1; unfold LoopBk; omega), blk_kp h.r k (by unfold LoopBk; omega),
    h.below.trans (k.toBelow h.below.size (fun i hi => by unfold LoopBk at hi; omega)), Nat.le_trans h.size k.size⟩
def ReadPost (s : ByteArray) (w : World) (e : Ending) (w' : World) : Prop := ∃ v, e = .returned (.tuple #[.agg #[.string (readP s).1.1, v], .int .i64 (readP s).2]) ∧ OwnG w' w.heap.size v (readP s).1.2 ∧ Below w.heap.size w w'
theorem below_drewN {B : Nat} {w w' : World} (h : Below B w w') (n : Nat) : Below B w (w'.drewN n) := ⟨h.os, h.tape, h.output, h.size, h.block⟩
theorem cutB1_le (s : ByteArray) (sep : List UInt8) : (cutB1 s sep).size ≤ s.size := by
  have e : s.data.toList.length = s.size := Array.length_toList
  show (Lib.cut s.data.toList sep).1.length ≤ _
  unfold Lib.cut
  split
  · rw [List.length_take]; omega
  · exact Nat.le_of_eq e
theorem cutB2_le (s : ByteArray) (sep : List UInt8) : (cutB2 s sep).size ≤ s.size := by
  have e : s.data.toList.length = s.size := Array.length_toList
  show (Lib.cut s.data.toList sep).2.1.length ≤ _
  unfold Lib.cut
  split
  · rw [List.length_drop]; omega
  · exact Nat.zero_le _
theorem trimPB_le (s : ByteArray) (p : List UInt8) : (trimPB s p).size ≤ s.size := by
  have e : s.data.toList.length = s.size := Array.length_toList
  show (Lib.trimPrefix s.data.toList p).length ≤ _
  unfold Lib.trimPrefix
  split
  · rw [List.length_drop]; omega
  · exact Nat.le_of_eq e
theorem trimSB_le (s : ByteArray) (p : List UInt8) : (trimSB s p).size ≤ s.size := by
  have e : s.data.toList.length = s.size := Array.length_toList
  show (Lib.trimSuffix s.data.toList p).length ≤ _
  unfold Lib.trimSuffix
  split
  · rw [List.length_take]; omega
  · exact Nat.le_of_eq e

theorem note_ret {fn : Func} {R : Ending → World → Prop} (a : Act) (W : World) (D r n : Nat) (t : ByteArray) (v : Value) (e : Int) (h : W.heap[r]? = some (.cells #[.string t, v] 69 (0, 0)))
    (hD : W.heap[D]? = some (.deferred (some []))) (hf : fn.results = #[.cell 2 69, .tmp 3]) (ha : a.tmps[2]?.getD undef = .pointer (some ⟨r, 0, none⟩)) (hc : a.tmps[3]?.getD undef = .int .i64 e)
    (hd : a.defers = [{ target := .collected D, args := #[] }]) (hR : R (.returned (.tuple #[.agg #[.string t, v], .int .i64 e])) (W.putObj D (.deferred none))) :
    bodyPostM Fence.wide n Tryz.prog fn R Exit.ret a W := by
  have hne : r ≠ D := by intro e; rw [e, hD] at h; cases h
  have h2 : (W.putObj D (.deferred none)).heap[r]? = some (.cells #[.string t, v] 69 (0, 0)) := (World.putObj_heap_other hne).trans h
  have c0 := cell_of_blk h2 0 (v := .string t) rfl
  have c1 := cell_of_blk h2 1 (v := v) rfl
  show LeavesInM _ _ _ _ _ _ a.defers _ _
  rw [hd]
  refine ⟨by simp, .inl ⟨_, _, rfl, run_takeDeferred hD, ?_⟩⟩
  refine ⟨.tuple #[.agg #[.string t, v], .int .i64 e], ?_, hR⟩
  simp only [results, hf]
  simp [go_sem, c0, c1, ha, hc]

theorem RdI.blk {w W0 : World} {tx : ByteArray} {A B : World} {v : Value} {L : List SigT} (h : RdI w W0 tx A v L) (k : Below A.heap.size A B) : RdI w W0 tx B v L :=
  ⟨blk_later h.n k, h.own.below k, blk_later h.r k, h.below.trans (k.mono h.below.size), Nat.le_trans h.size k.size⟩
theorem rdi_step {w W0 W Wc W6 : World} {tx : ByteArray} {v v' : Value} {L L' : List SigT} {o : Obj} (HI : RdI w W0 tx W v L) (hzz : W0.heap.size = w.heap.size + 5) (hB : Below W.heap.size W Wc) (hO : OwnG W6 (W0.heap.size + 2) v' L') (hg : (Wc.alloc o).grownBy W6 v.ownBlock) :
    RdI w W0 tx (W6.setCell ⟨w.heap.size + 1, 1, none⟩ v') v' L' ∧ Kp (BodyBk (SeqR (w.heap.size + 2)) W0) W (W6.setCell ⟨w.heap.size + 1, 1, none⟩ v') ∧ W6.heap[w.heap.size + 1]? = some (.cells #[.string tx, v] 69 (0, 0)) := by
  have hown := OwnL.lt HI.own
  have hk6 : Kp (fun k => v.ownBlock = some k) W W6 := ((Kp.of_below hB).alloc o).grown hg (fun k h => .inl h)
  have hn6 := blk_kp HI.n hk6 (fun h => by have := (hown _ h).1; omega)
  have hr6 := blk_kp HI.r hk6 (fun h => by have := (hown _ h).1; omega)
  have hk7 : Kp (fun k => v.ownBlock = some k ∨ k = w.heap.size + 1) W (W6.setCell ⟨w.heap.size + 1, 1, none⟩ v') := (hk6.mono fun _ h => .inl h).setCell (p := ⟨w.heap.size + 1, 1, none⟩) (.inl (.inr rfl)) _
  refine ⟨⟨blk_set hn6 v', OwnL.kp hO ((Kp.refl (fun k => k = w.heap.size + 1) W6).setCell (p := ⟨w.heap.size + 1, 1, none⟩) (.inl rfl) _) (fun g hg => by have := (OwnL.lt hO g hg).1; omega), blk_set_other hr6 (by omega) _, ?_, Nat.le_trans HI.size hk7.size⟩, hk7.mono fun k h => ?_, hn6⟩
  · exact HI.below.trans (hk7.toBelow HI.below.size (fun i hi => hi.elim (fun h => by have := (hown _ h).1; omega) (fun h => by omega)))
  · unfold BodyBk SeqR
    rcases h with h | h
    · have := (hown _ h).1; omega
    · omega
theorem Kp.putObj' {S : Nat → Prop} {a w : World} (h : Kp S a w) {l : Nat} (o : Obj) : Kp (fun k => S k ∨ k = l) a (w.putObj l o) := (h.mono fun _ h => .inl h).putObj o (.inr rfl)
theorem read_bad {fn : Func} {a : Act} {w W0 W2 : World} {tx : ByteArray} {v : Value} {L : List SigT} {res : NtV × Int} {n D : Nat} (HI : RdI w W0 tx W2 v L) (HD : W2.heap[W0.heap.size]? = some (.deferred (some []))) (hzz : W0.heap.size = w.heap.size + 5) (hres : res = (nt0, 3))
    (hf : fn.results = #[.cell 2 69, .tmp 3]) (ha : a.tmps[2]?.getD undef = .pointer (some ⟨w.heap.size, 0, none⟩)) (hc : a.tmps[3]?.getD undef = .int .i64 3)
    (hd : a.defers = [{ target := .collected D, args := #[] }]) (hD : D = w.heap.size + 5) :
    bodyPostM Fence.wide n Tryz.prog fn (fun e w' => ∃ v, e = Ending.returned (.tuple #[.agg #[.string res.1.1, v], .int .i64 res.2]) ∧ OwnG w' w.heap.size v res.1.2 ∧ Below w.heap.size w w') Exit.ret a
      ((W2.setCell ⟨w.heap.size, 0, none⟩ (.string ⟨#[]⟩)).setCell ⟨w.heap.size, 1, none⟩ (.slice none 0 0)) := by
  subst hD
  rw [hzz] at HD
  have hr5 : ((W2.setCell ⟨w.heap.size, 0, none⟩ (.string ⟨#[]⟩)).setCell ⟨w.heap.size, 1, none⟩ (.slice none 0 0)).heap[w.heap.size]? = some (.cells #[.string ⟨#[]⟩, .slice none 0 0] 69 (0, 0)) := blk_set (blk_set HI.r _) _
  have hk5 : Kp (fun k => k = w.heap.size) W2 ((W2.setCell ⟨w.heap.size, 0, none⟩ (.string ⟨#[]⟩)).setCell ⟨w.heap.size, 1, none⟩ (.slice none 0 0)) := ((Kp.refl (fun k => k = w.heap.size) W2).setCell (p := ⟨w.heap.size, 0, none⟩) (.inl rfl) _).setCell (p := ⟨w.heap.size, 1, none⟩) (.inl rfl) _
  refine note_ret _ _ (w.heap.size + 5) w.heap.size n ⟨#[]⟩ (.slice none 0 0) 3 hr5 (hk5.keep HD (by omega)) hf ha hc hd ?_
  have k6 := hk5.putObj' (l := w.heap.size + 5) (.deferred none)
  rw [hres]
  exact ⟨_, rfl, ownL_nil _ _, HI.below.trans (k6.toBelow HI.below.size (fun i hi => by omega))⟩

set_option maxRecDepth 100000 in
set_option maxHeartbeats 4000000 in
theorem read_note (s : ByteArray) (w : World) (hs : s.size ≤ 100000000) (hV : VarsV w) :
    Calls Tryz.prog 86 #[.string s] w (ReadPost s w) := by
  have HV := Lib.hid hV
  have hcut := fun (W : World) (hW : VarsV W) => (by obtain ⟨-, -, ⟨m, hm⟩, -, -⟩ := hW; exact Tryz.strings_Cut s ⟨#[10, 10]⟩ m W (by omega) hm :
    Calls Tryz.prog 141 #[.string s, .string ⟨#[10, 10]⟩] W fun e w' => e = .returned (.tuple #[.string (cutB1 s [10, 10]), .string (cutB2 s [10, 10]), .bool (Lib.cut s.data.toList [10, 10]).2.2]) ∧ ∃ n, w' = W.drewN n)
  have HC := Lib.hid hcut
  have z1 := cutB1_le s [10, 10]
  have z2 := cutB2_le s [10, 10]
  have z3 := trimSB_le (cutB2 s [10, 10]) [10]
  have htr : ∀ W : World, Calls Tryz.prog 143 #[.string (cutB2 s [10, 10]), .string ⟨#[10]⟩] W fun e w' => e = .returned (.string (trimSB (cutB2 s [10, 10]) [10])) ∧ w' = W := fun W => Tryz.strings_TrimSuffix (cutB2 s [10, 10]) ⟨#[10]⟩ W (by omega)
  have HT := Lib.hid htr
  obtain ⟨cand, hcand⟩ : ∃ cand, cand = candP s := ⟨_, rfl⟩
  have hcand2 : takeS 0 (pcs (trimSB (cutB2 s [10, 10]) [10])) = cand := hcand.symm
  have hrd : readP s = if fmtV (cutB1 s [10, 10] ++ nlB) cand = (s, 0) then ((cutB1 s [10, 10] ++ nlB, cand), 0) else (nt0, 3) := by rw [hcand]; rfl
  have HCand := Lib.hid hcand2
  have HRd := Lib.hid hrd
  clear hV hcut htr hcand hcand2 hrd
  unfold ReadPost
  generalize cutB1 s [10, 10] = c1 at HC HRd z1
  generalize cutB2 s [10, 10] = c2 at HC HT HCand z2 z3
  generalize trimSB c2 [10] = tr at HT HCand z3
  generalize (Lib.cut s.data.toList [10, 10]).2.2 = c3 at HC
  generalize readP s = res at HRd
  refine (callsIn_wide (n := 9)).1 ?_
  refine callsIn_of_wp_marks Tryz.func86 rfl trivial ?_ rfl
  simp only [Tryz.ntmps86, List.size_toArray, List.length_cons, List.length_nil, Nat.reduceAdd, Nat.reduceSub, Array.replicate_succ, Array.replicate_zero, List.push_toArray, List.append_toArray, List.nil_append, List.cons_append]
  gi_wp2_with fail
  refine wide_call2 (HC.out _ (HV.out.alloc _)) ?_
  rintro e w1 ⟨rfl, nd, rfl⟩
  gi_wp2_with fail
  refine wide_call2 (HT.out _) ?_
  rintro e w' ⟨rfl, rfl⟩
  gi_wp2_with fail
  refine wide_call2 (seq_any tr _) ?_
  unfold seqVal
  rintro e W0 ⟨rfl, hS0, hB0, hz0⟩
  generalize hw1 : ((w.alloc (.cells #[.string ⟨#[]⟩, .slice none 0 0] 69)).drewN nd).alloc (.cells #[.string (c1 ++ ⟨#[10]⟩), .slice none 0 0] 69) = w1 at hS0 hB0 hz0
  have hz1 : w1.heap.size = w.heap.size + 2 := by rw [← hw1]; simp [World.drewN]
  have hr1 : w1.heap[w.heap.size]? = some (.cells #[.string ⟨#[]⟩, .slice none 0 0] 69 (0, 0)) := by
    rw [← hw1]
    exact blk_alloc (show ((w.alloc (.cells #[.string ⟨#[]⟩, .slice none 0 0] 69)).drewN nd).heap[w.heap.size]? = _ from blk_new w _) _
  have hn1 : w1.heap[w.heap.size + 1]? = some (.cells #[.string (c1 ++ ⟨#[10]⟩), .slice none 0 0] 69 (0, 0)) := by
    rw [← hw1]
    have h := blk_new ((w.alloc (.cells #[.string ⟨#[]⟩, .slice none 0 0] 69)).drewN nd) (.cells #[.string (c1 ++ ⟨#[10]⟩), .slice none 0 0] 69)
    have e : ((w.alloc (.cells #[.string ⟨#[]⟩, .slice none 0 0] 69)).drewN nd).heap.size = w.heap.size + 1 := by simp [World.drewN]
    rwa [e] at h
  have hk1 : Below w.heap.size w w1 := by
    rw [← hw1]
    exact (below_drewN ((Below.refl _ _).alloc (Nat.le_refl _) _) nd).alloc (by simp [World.drewN]) _
  have hzz : W0.heap.size = w.heap.size + 5 := by omega
  rw [hz1] at hS0 ⊢
  have h0 : RdI w W0 (c1 ++ ⟨#[10]⟩) W0 (.slice none 0 0) [] := ⟨blk_later hn1 hB0, ownL_nil _ _, blk_later hr1 hB0, hk1.trans (hB0.mono hk1.size), Nat.le_refl _⟩
  have HS0 := Lib.hid hS0
  have H0 := Lib.hid h0
  clear hw1 hr1 hn1 hk1 hB0 hz0 h0 hS0 hz1 HC HT
  gi_wp2_with fail
  refine wpIn_rangeFunc_box (α := ByteArray) (gf := 204) (lb := #[.pointer (some ⟨w.heap.size + 2 + 1, 0, none⟩), .pointer (some ⟨w.heap.size + 2, 0, none⟩), .pointer (some ⟨w.heap.size + 2 + 2, 0, none⟩)]) rfl (enters_of Tryz.func204 (by kernel_rfl) rfl)
    (split_stops _ tr (w.heap.size + 2) W0 HS0.out (by omega)) (fun b hb => .inl hb) (fun b hb => by rcases hb with h | h | h <;> omega) (fun x => rfl)
    (fun pre W => ∃ v L, RdI w W0 (c1 ++ ⟨#[10]⟩) W v L ∧ TakeSt pre L)
    (fun c pre W => c = .exit 0 ∧ ∃ v L, RdI w W0 (c1 ++ ⟨#[10]⟩) W v L ∧ TakeEnd pre L)
    (fun pre A B ⟨v, L, h1, h2⟩ hk => ⟨v, L, h1.kp hzz hk, h2⟩)
    (fun c pre A B ⟨hc, v, L, h1, h2⟩ hk => ⟨hc, v, L, h1.kp hzz hk, h2⟩)
    ⟨_, _, H0.out, takeSt_nil⟩
    (fun x => { tmps := #[.string s, undef, .pointer (some ⟨w.heap.size, 0, none⟩), .int .i64 0, .string c1, .string c2, .bool c3, .pointer (some ⟨w.heap.size + 1, 0, none⟩), .string x, undef, undef, undef, undef, undef, undef, .tuple #[.string c1, .string c2, .bool c3], .string s, .tuple #[.string c1, .string c2, .bool c3], .string c1, .string c2, .bool c3, .string c1, .string (c1 ++ ⟨#[10]⟩), .agg #[.string (c1 ++ ⟨#[10]⟩), .slice none 0 0], .string c2, .string tr, .func (.func 204) #[] #[.pointer (some ⟨w.heap.size + 2 + 1, 0, none⟩), .pointer (some ⟨w.heap.size + 2, 0, none⟩), .pointer (some ⟨w.heap.size + 2 + 2, 0, none⟩)], .string x, undef, undef, undef, undef, undef, undef, undef, undef, undef, undef, undef, undef, undef, undef, undef, undef, undef, undef, undef, undef, undef, undef, undef, undef, undef, undef, undef, undef, undef, undef, undef, undef, undef, undef, undef, undef, undef, undef, undef, undef, undef, undef, undef, undef, undef, undef], defers := [] }) ?assign ?body ?done ?stop
  case assign =>
    intro l x W K hK
    gi_wp2
    exact hK
  case body =>
    rintro l pre x W hsp ⟨v, L, hI, hT⟩ hlt
    have hmem : x ∈ pcs tr := hsp.subset (by simp)
    have hxz := piece_size hmem
    have HI := Lib.hid hI
    have HT := Lib.hid hT
    clear hI hT hmem hsp HRd HCand HS0 H0
    by_cases hx : x.size = 0
    · have e1 : (x.toList == ByteArray.toList ⟨#[]⟩) = true := by rw [(size_zero_iff x).1 hx, (size_zero_iff ⟨#[]⟩).1 rfl]; rfl
      have e2 : x.toList.isEmpty = true := by rw [(size_zero_iff x).1 hx]; rfl
      have HE := Lib.hid (HT.out.stop hx)
      clear hx
      gi_wp2_with fail
      exact ⟨Kp.refl _ _, rfl, _, _, HI.out, HE.out⟩
    · have e2 : x.toList.isEmpty = false := by cases hl : x.toList with | nil => exact absurd ((size_zero_iff x).2 hl) hx | cons a b => rfl
      have y1 := trimPB_le x [115, 105, 103, 32]
      have htp : ∀ W : World, Calls Tryz.prog 144 #[.string x, .string ⟨#[115, 105, 103, 32]⟩] W fun e w' => e = .returned (.string (trimPB x [115, 105, 103, 32])) ∧ w' = W := fun W => Tryz.strings_TrimPrefix x ⟨#[115, 105, 103, 32]⟩ W
      have HTP := Lib.hid htp
      have hline : lineSig x = ((unhexB (cutB1 (trimPB x [115, 105, 103, 32]) [32])).1, (unhexB (cutB2 (trimPB x [115, 105, 103, 32]) [32])).1) := rfl
      have HL := Lib.hid hline
      clear htp hline
      generalize trimPB x [115, 105, 103, 32] = y at HTP HL y1
      have y2 := cutB1_le y [32]
      have y3 := cutB2_le y [32]
      have hcu : ∀ W : World, VarsV W → Calls Tryz.prog 141 #[.string y, .string ⟨#[32]⟩] W fun e w' => e = .returned (.tuple #[.string (cutB1 y [32]), .string (cutB2 y [32]), .bool (Lib.cut y.data.toList [32]).2.2]) ∧ ∃ n, w' = W.drewN n := fun W hW => by
        obtain ⟨-, -, ⟨m, hm⟩, -, -⟩ := hW
        exact Tryz.strings_Cut y ⟨#[32]⟩ m W (by omega) hm
      have HCU := Lib.hid hcu
      clear hcu
      generalize cutB1 y [32] = ya at HCU HL y2
      generalize cutB2 y [32] = yb at HCU HL y3
      generalize (Lib.cut y.data.toList [32]).2.2 = yc at HCU
      have HA := Lib.hid (fun W => unhex_any ya W (by omega))
      have HB := Lib.hid (fun W => unhex_any yb W (by omega))
      have HTL := Lib.hid (fun hl => HT.out.last hx hl)
      have HTG := Lib.hid (fun hl => HT.out.go hx hl)
      rw [HL.out] at HTL HTG
      have hlen : L.length ≤ 16 := by have := HT.out.2; omega
      clear HL hx HT
      generalize (unhexB ya).1 = ua at HA HTL HTG
      generalize (unhexB ya).2 = uab at HA
      generalize (unhexB yb).1 = ub at HB HTL HTG
      generalize (unhexB yb).2 = ubb at HB
      gi_wp2_with fail
      refine wide_call2R (HTP.out _) ?_
      rintro e wq ⟨rfl, hw⟩
      obtain rfl := hw.symm
      gi_wp2_with fail
      refine wide_call2R (HCU.out _ (HV.out.below HI.out.below)) ?_
      rintro e wq ⟨rfl, k, hw⟩
      have hb1 : Below W.heap.size W wq := by rw [hw]; exact below_drewN (Below.refl _ _) k
      have hz1 : wq.heap.size = W.heap.size := by rw [hw]; rfl
      have HB1 := Lib.hid hb1
      clear hw hb1 HTP HCU
      gi_wp2_with fail
      have hb2 : Below W.heap.size W (wq.alloc (.cells #[.string ⟨#[]⟩, .string ⟨#[]⟩] 54)) := HB1.out.alloc (by omega) _
      have hx2 : (wq.alloc (.cells #[.string ⟨#[]⟩, .string ⟨#[]⟩] 54)).heap[W.heap.size]? = some (.cells #[.string ⟨#[]⟩, .string ⟨#[]⟩] 54 (0, 0)) := by rw [← hz1]; exact blk_new _ _
      generalize wq.alloc (.cells #[.string ⟨#[]⟩, .string ⟨#[]⟩] 54) = wa at hb2 hx2 ⊢
      have HB2 := Lib.hid hb2
      have HX2 := Lib.hid hx2
      clear hb2 hx2 HB1 hz1
      refine wide_call2R (HA.out _) ?_
      rintro e wb ⟨rfl, hb⟩
      have HB3 := Lib.hid (HB2.out.trans (hb.mono HB2.out.size))
      have HX3 := Lib.hid (blk_later HX2.out hb)
      clear hb HB2 HX2 HA
      have x0 := cell_of_blk HX3.out 0 (v := .string ⟨#[]⟩) rfl
      have x1 := cell_of_blk HX3.out 1 (v := .string ⟨#[]⟩) rfl
      have f0 := free_of_blk HX3.out 0
      gi_wp2_with fail
      have hb4 : Below W.heap.size W (wb.setCell ⟨W.heap.size, 0, none⟩ (.string ua)) := HB3.out.setCell (p := ⟨W.heap.size, 0, none⟩) (Nat.le_refl _) _
      have hx4 := blk_set (i := 0) HX3.out (.string ua)
      generalize wb.setCell ⟨W.heap.size, 0, none⟩ (.string ua) = wc at hb4 hx4 ⊢
      have HB4 := Lib.hid hb4
      have HX4 := Lib.hid hx4
      clear hb4 hx4 HB3 HX3 x0 x1 f0
      refine wide_call2R (HB.out _) ?_
      rintro e wd ⟨rfl, hb⟩
      have HB5 := Lib.hid (HB4.out.trans (hb.mono HB4.out.size))
      have HX5 := Lib.hid (blk_later HX4.out hb)
      clear hb HB4 HX4 HB
      have x0 := cell_of_blk HX5.out 0 (v := .string ua) rfl
      have x1 := cell_of_blk HX5.out 1 (v := .string ⟨#[]⟩) rfl
      have f1 := free_of_blk HX5.out 1
      have hI5 := HI.out.blk (HB5.out)
      have n1 := cell_of_blk hI5.n 1 (v := v) rfl
      have nf1 := free_of_blk hI5.n 1
      have hne : w.heap.size + 1 ≠ W.heap.size := by omega
      have hb6 : Below W.heap.size W (wd.setCell ⟨W.heap.size, 1, none⟩ (.string ub)) := HB5.out.setCell (p := ⟨W.heap.size, 1, none⟩) (Nat.le_refl _) _
      have hO6 : OwnG (wd.setCell ⟨W.heap.size, 1, none⟩ (.string ub)) (W0.heap.size + 2) v L := HI.out.own.below hb6
      have HB6 := Lib.hid hb6
      have HO6 := Lib.hid hO6
      obtain ⟨i0, hi, hz0, hz1, hz2⟩ := info_parts infoSig
      have HI2 := Lib.hid hz2
      clear hb6 hO6 hI5 hz2
      gi_wp2_with (first | (gi_at_builtin; refine wpListIn_append_own _ rfl _ _ 41 rfl (W0.heap.size + 2) 54 i0 (.agg #[.string ⟨#[]⟩, .string ⟨#[]⟩]) 2 32 Tryz.underlying41 hi hz0 hz1 HI2.out rfl (by decide) v L.length (L.flatMap (fun x : SigT => [Value.string x.1, Value.string x.2])) rfl (OwnL.alloc HO6.out _) ⟨wd.heap.size, 0, none⟩ 1 1 [.string ua, .string ub] rfl rfl ?_ ?_ ?_ ?_ ?_ ?_) | fail)
      · have h := one_sig (wd.setCell ⟨W.heap.size, 1, none⟩ (.string ub)) (ua, ub) 54
        have e : (wd.setCell ⟨W.heap.size, 1, none⟩ (.string ub)).heap.size = wd.heap.size := by simp [World.setCell]
        rw [e] at h
        exact h
      · intro u hu
        simp at hu
        rcases hu with rfl | rfl <;> rfl
      · unfold maxLen; omega
      · omega
      · rw [size_alloc]; have := HB6.out.size; omega
      intro v' w6 hown hgrow hnil
      have hO' : OwnG w6 (W0.heap.size + 2) v' (L ++ [(ua, ub)]) := by
        unfold OwnG OwnL
        rw [hzz, List.length_append, List.flatMap_append]
        exact hown
      obtain ⟨ao, cap, rfl, -, -, -⟩ := OwnL.form hO'
      obtain ⟨hI7, hk7, hn6⟩ := rdi_step HI.out hzz HB6.out hO' hgrow
      have HI7 := Lib.hid hI7
      have HK7 := Lib.hid hk7
      clear hO' hI7 hk7 hown hgrow hnil n1 nf1 x0 x1 f1 HO6 HB6 HI2 HX5 HB5
      have n1 := cell_of_blk hn6 1 (v := v) rfl
      have nf1 := free_of_blk hn6 1
      clear hn6
      have hl1 : (L ++ [(ua, ub)]).length = L.length + 1 := by rw [List.length_append]; rfl
      rw [hl1] at HI7 HK7
      have hmx : (L.length : Int) + 1 ≤ 100 := by omega
      gi_wp2_with fail
      · exact ⟨HK7.out, rfl, _, _, HI7.out, HTL.out (by omega)⟩
      · exact ⟨HK7.out, _, _, HI7.out, HTG.out (by omega)⟩
  case' done =>
    rintro xs W rfl ⟨v, L, hI, hT⟩ hD
    have hL : L = cand := hT.done.symm.trans HCand.out
    have hlen : L.length ≤ 17 := by have := hT.2; omega
    clear hT
  case' stop =>
    rintro c pre W hsp ⟨rfl, v, L, hI, hT⟩ hD
    have hL : L = cand := (hT.done hsp).symm.trans HCand.out
    have hlen : L.length ≤ 17 := hT.2
    clear hT hsp pre
  all_goals
    obtain ⟨ad, cap, rfl, hsg⟩ := hI.own.sigs
    have n0 := cell_of_blk hI.n 0 (v := .string (c1 ++ ⟨#[10]⟩)) rfl
    have n1 := cell_of_blk hI.n 1 (v := .slice ad L.length cap) rfl
    have HF := Lib.hid (format_any (c1 ++ ⟨#[10]⟩) ad L cap W (by rw [ByteArray.size_append]; have : (⟨#[10]⟩ : ByteArray).size = 1 := rfl; omega) (by omega) hsg (HV.out.below hI.below))
    have hrd : res = if fmtV (c1 ++ ⟨#[10]⟩) L = (s, 0) then ((c1 ++ ⟨#[10]⟩, L), 0) else (nt0, 3) := by rw [hL]; exact HRd.out
    have HR := Lib.hid hrd
    have HI := Lib.hid hI
    have HD := Lib.hid hD
    have hnd : w.heap.size + 1 ≠ W0.heap.size := by omega
    clear hL hsg hrd hI hD HRd HCand HS0 H0
    generalize fmtV (c1 ++ ⟨#[10]⟩) L = q at HF HR
    gi_wp2_with fail
    refine wide_call2 HF.out ?_
    rintro e W2 ⟨rfl, hb2⟩
    have HI2 := Lib.hid (⟨blk_later HI.out.n hb2, HI.out.own.below hb2, blk_later HI.out.r hb2, HI.out.below.trans (hb2.mono HI.out.below.size), Nat.le_trans HI.out.size hb2.size⟩ : RdI w W0 (c1 ++ ⟨#[10]⟩) W2 (.slice ad L.length cap) L)
    have HD2 := Lib.hid (blk_later HD.out hb2)
    clear n0 n1 hb2 HF
    have n0 := cell_of_blk HI2.out.n 0 (v := .string (c1 ++ ⟨#[10]⟩)) rfl
    have n1 := cell_of_blk HI2.out.n 1 (v := .slice ad L.length cap) rfl
    have r0 := cell_of_blk HI2.out.r 0 (v := .string ⟨#[]⟩) rfl
    have r1 := cell_of_blk HI2.out.r 1 (v := .slice none 0 0) rfl
    have rf0 := free_of_blk HI2.out.r 0
    have rf1 := free_of_blk HI2.out.r 1
    by_cases hq : q.2 = 0
    · have hq2b : (q.2 == 0) = true := beq_iff_eq.2 hq
      have hq2n : (q.2 != 0) = false := by rw [bne, hq2b]; rfl
      by_cases hq1 : q.1 = s
      · have hq1b : (q.1.toList == s.toList) = true := by rw [hq1]; exact beq_self_eq_true _
        have hres : res = ((c1 ++ ⟨#[10]⟩, L), 0) := by rw [HR.out, if_pos (Prod.ext hq1 hq)]
        have HE := Lib.hid hres
        clear hres hq1
        gi_wp2_with fail
        have hr5 : ((W2.setCell ⟨w.heap.size, 0, none⟩ (.string (c1 ++ ⟨#[10]⟩))).setCell ⟨w.heap.size, 1, none⟩ (.slice ad L.length cap)).heap[w.heap.size]? = some (.cells #[.string (c1 ++ ⟨#[10]⟩), .slice ad L.length cap] 69 (0, 0)) := blk_set (blk_set HI2.out.r _) _
        have hk5 : Kp (fun k => k = w.heap.size) W2 ((W2.setCell ⟨w.heap.size, 0, none⟩ (.string (c1 ++ ⟨#[10]⟩))).setCell ⟨w.heap.size, 1, none⟩ (.slice ad L.length cap)) := ((Kp.refl (fun k => k = w.heap.size) W2).setCell (p := ⟨w.heap.size, 0, none⟩) (.inl rfl) _).setCell (p := ⟨w.heap.size, 1, none⟩) (.inl rfl) _
        rw [hzz] at HD2
        refine note_ret _ _ (w.heap.size + 5) w.heap.size 9 (c1 ++ ⟨#[10]⟩) (.slice ad L.length cap) 0 hr5 (hk5.keep HD2.out (by omega)) rfl rfl rfl rfl ?_
        have k6 := hk5.putObj' (l := w.heap.size + 5) (.deferred none)
        rw [HE.out]
        exact ⟨_, rfl, OwnL.base (OwnL.kp HI2.out.own k6 (fun g hg => by have := (OwnL.lt HI2.out.own g hg).1; omega)) (fun g hg => by have := (OwnL.lt HI2.out.own g hg).1; omega), HI2.out.below.trans (k6.toBelow HI2.out.below.size (fun i hi => by omega))⟩
      · have hq1b : (q.1.toList == s.toList) = false := by rw [toList_eqbV]; exact decide_eq_false hq1
        have hres : res = (nt0, 3) := by rw [HR.out, if_neg (fun h => hq1 (congrArg Prod.fst h))]
        have HE := Lib.hid hres
        clear hres hq1
        gi_wp2_with fail
        exact read_bad HI2.out HD2.out hzz HE.out rfl rfl rfl rfl rfl
    · have hq2b : (q.2 == 0) = false := beq_eq_false_iff_ne.2 hq
      have hq2n : (q.2 != 0) = true := bne_iff_ne.2 hq
      have hres : res = (nt0, 3) := by rw [HR.out, if_neg (fun h => hq (congrArg Prod.snd h))]
      have HE := Lib.hid hres
      clear hres
      gi_wp2_with fail
      exact read_bad HI2.out HD2.out hzz HE.out rfl rfl rfl rfl rfl
end Go.Proofs.YtmejjphliaiamaaGreatDoor
