import Derived.Test.YtmejjphliaiamaaGreatDoorNoB
import Derived.Deep.DeepCutAuto
set_option linter.unusedVariables false
set_option linter.unusedSimpArgs false
namespace Go.Proofs.YtmejjphliaiamaaGreatDoor
open Go Go.RowKit Go.Lib

/-! ### a text read as a checkpoint -/
def pcs (t : ByteArray) : List ByteArray := Lib.splitB nlB 0 (Lib.countB t nlB) t
theorem pcs_data (t : ByteArray) : (pcs t).map (·.data.toList) = cutsL t.data.toList := by
  unfold pcs
  rw [splitB_data, ← split_nl]
  rfl
theorem pcs_len (t : ByteArray) : (pcs t).length = Lib.countB t nlB + 1 := splitB_all nlB (by decide) 0 _ t rfl
theorem split_pcs (t : ByteArray) (w : World) (ht : t.size < 4294967281) (hV : VarsV w) :
    Calls Tryz.prog 133 #[.string t, .string ⟨#[10]⟩] w fun e w' => e = .returned (.slice (some ⟨w.heap.size, 0, none⟩) (pcs t).length (pcs t).length) ∧ w' = w.alloc (.cells ((pcs t).map Value.string).toArray 9) := by
  rw [pcs_len]
  exact split_any t nlB w ht (by decide) hV
abbrev Cp := ByteArray × Int × ByteArray
def cp0 : Cp := (⟨#[]⟩, 0, ⟨#[]⟩)
/-- what the program makes of five pieces. -/
def cand (p1 p2 p3 : ByteArray) : Cp := (p1, (atoiR p2).1, (unhexB p3).1)
def takes (c : Cp) (t : ByteArray) : Bool := decide ((cpV c.1 c.2.1 c.2.2).2 = 0) && decide ((cpV c.1 c.2.1 c.2.2).1 = t)
def parseP (t : ByteArray) : Cp × Int := match pcs t with
  | [_, p1, p2, p3, _] => if ((atoiR p2).2 && takes (cand p1 p2 p3) t) = true then (cand p1 p2 p3, 0) else (cp0, 3)
  | _ => (cp0, 3)
def cpTup (x : Cp × Int) : Value := .tuple #[cpVal x.1.1 x.1.2.1 x.1.2.2, .int .i64 x.2]

structure PBun (w0 w : World) (b c : Nat) (cs : Array Value) (o : ByteArray) (n : Int) (r : ByteArray) : Prop where
  out : CpAt w b ⟨#[]⟩ 0 ⟨#[]⟩
  pc : w.heap[c]? = some (.cells cs 9 (0, 0))
  at_ : CpAt w (c + 1) o n r
  lt : b < c
  below : Below w0.heap.size w0 w
  base : w0.heap.size ≤ b
theorem PBun.later {w0 w w' : World} {b c : Nat} {cs : Array Value} {o : ByteArray} {n : Int} {r : ByteArray} (h : PBun w0 w b c cs o n r) (k : Below w.heap.size w w') : PBun w0 w' b c cs o n r :=
  ⟨blk_later h.out k, blk_later h.pc k, blk_later h.at_ k, h.lt, h.below.trans (k.mono h.below.size), h.base⟩
theorem PBun.set1 {w0 w : World} {b c : Nat} {cs : Array Value} {o : ByteArray} {n : Int} {r : ByteArray} (h : PBun w0 w b c cs o n r) (x : Int) : PBun w0 (w.setCell ⟨c + 1, 1, none⟩ (.int .i64 x)) b c cs o x r :=
  ⟨blk_set_other h.out (by have := h.lt; omega) _, blk_set_other h.pc (by omega) _, blk_set h.at_ _, h.lt, h.below.setCell (p := ⟨c + 1, 1, none⟩) (by show w0.heap.size ≤ c + 1; have := h.base; have := h.lt; omega) _, h.base⟩
theorem PBun.set2 {w0 w : World} {b c : Nat} {cs : Array Value} {o : ByteArray} {n : Int} {r : ByteArray} (h : PBun w0 w b c cs o n r) (x : ByteArray) : PBun w0 (w.setCell ⟨c + 1, 2, none⟩ (.string x)) b c cs o n x :=
  ⟨blk_set_other h.out (by have := h.lt; omega) _, blk_set_other h.pc (by omega) _, blk_set h.at_ _, h.lt, h.below.setCell (p := ⟨c + 1, 2, none⟩) (by show w0.heap.size ≤ c + 1; have := h.base; have := h.lt; omega) _, h.base⟩
theorem CpAt.set3 {w : World} {b : Nat} {o : ByteArray} {n : Int} {r : ByteArray} (h : CpAt w b o n r) (o' : ByteArray) (n' : Int) (r' : ByteArray) : CpAt (((w.setCell ⟨b, 0, none⟩ (.string o')).setCell ⟨b, 1, none⟩ (.int .i64 n')).setCell ⟨b, 2, none⟩ (.string r')) b o' n' r' :=
  blk_set (blk_set (blk_set h _) _) _
theorem below_set3v {B b : Nat} {w0 w : World} (h : Below B w0 w) (hb : B ≤ b) (x y z : Value) : Below B w0 (((w.setCell ⟨b, 0, none⟩ x).setCell ⟨b, 1, none⟩ y).setCell ⟨b, 2, none⟩ z) :=
  ((h.setCell (p := ⟨b, 0, none⟩) hb _).setCell (p := ⟨b, 1, none⟩) hb _).setCell (p := ⟨b, 2, none⟩) hb _
theorem cp_ret {fn : Func} {R : Value} (a : Act) (w w0 : World) (b : Nat) (o : ByteArray) (n : Int) (r : ByteArray) (e : Int) (h : CpAt w b o n r) (hR : R = cpTup ((o, n, r), e)) (hb : Below w0.heap.size w0 w)
    (hf : fn.results = #[.cell 2 28, .tmp 3])
    (ha : a.tmps[2]?.getD undef = .pointer (some ⟨b, 0, none⟩)) (hc : a.tmps[3]?.getD undef = .int .i64 e) (hd : a.defers = []) :
    bodyPost Tryz.prog fn (fun e w' => e = .returned R ∧ Below w0.heap.size w0 w') Exit.ret a w := by
  obtain ⟨c0, c1, c2⟩ := h.cells
  subst hR
  refine bodyPost_ret (v := cpTup ((o, n, r), e)) (by simp only [results, hf]; simp [cpTup, cpVal, go_sem, c0, c1, c2, ha, hc]) hd ⟨rfl, hb⟩

theorem unhexGo_le : ∀ (l : List UInt8) (acc t : ByteArray), unhexGo acc l = some t → t.size ≤ acc.size + l.length
  | [], acc, t, h => by unfold unhexGo at h; obtain rfl := Option.some.inj h; exact Nat.le_refl _
  | [_], acc, t, h => by unfold unhexGo at h; cases h
  | a :: b :: r, acc, t, h => by
    rw [unhexGo_cons] at h
    split at h
    · cases h
    · have := unhexGo_le r _ t h
      rw [ByteArray.size_append, oneB_size] at this
      simp only [List.length_cons]
      omega
theorem unhexB_le (s : ByteArray) : (unhexB s).1.size ≤ s.size := by
  unfold unhexB
  split
  · rename_i t h
    have h7 := unhexGo_le _ _ _ h
    show t.size ≤ s.size
    have e : s.data.toList.length = s.size := Array.length_toList
    have e2 : (⟨#[]⟩ : ByteArray).size = 0 := rfl
    omega
  · exact Nat.zero_le _
theorem parseP_other {t : ByteArray} (h : (pcs t).length ≠ 5) : parseP t = (cp0, 3) := by
  unfold parseP
  split
  · rename_i hh; rw [hh] at h; exact absurd rfl h
  · rfl
theorem parseP_five {t p0 p1 p2 p3 p4 : ByteArray} (h : pcs t = [p0, p1, p2, p3, p4]) : parseP t = if ((atoiR p2).2 && takes (cand p1 p2 p3) t) = true then (cand p1 p2 p3, 0) else (cp0, 3) := by
  unfold parseP
  rw [h]
theorem five_of {α : Type} {l : List α} (h : l.length = 5) : ∃ a b c d e, l = [a, b, c, d, e] := by
  match l, h with
  | [a, b, c, d, e], _ => exact ⟨a, b, c, d, e, rfl⟩
theorem piece_size {t p : ByteArray} (h : p ∈ pcs t) : p.size ≤ t.size := by
  have hm : p.data.toList ∈ cutsL t.data.toList := by rw [← pcs_data]; exact List.mem_map_of_mem h
  have : ∀ (l : List UInt8) q, q ∈ cutsL l → q.length ≤ l.length := by
    intro l
    induction l with
    | nil => intro q hq; simp [cutsL] at hq; subst hq; exact Nat.le_refl _
    | cons c r ih =>
      intro q hq
      unfold cutsL at hq
      split at hq
      · rcases List.mem_cons.1 hq with rfl | hq
        · exact Nat.zero_le _
        · have := ih q hq; rw [List.length_cons]; omega
      · split at hq
        · rename_i p q' he
          rcases List.mem_cons.1 hq with rfl | hq
          · have := ih p (by rw [he]; simp); rw [List.length_cons, List.length_cons]; omega
          · have := ih q (by rw [he]; simp [hq]); rw [List.length_cons]; omega
        · simp at hq; subst hq; simp
  have h1 := this _ _ hm
  have e1 : p.data.toList.length = p.size := Array.length_toList
  have e2 : t.data.toList.length = t.size := Array.length_toList
  omega

set_option maxRecDepth 100000 in
set_option maxHeartbeats 2000000 in
theorem parse_any (t : ByteArray) (w : World) (ht : t.size ≤ 2097152) (hV : VarsV w) :
    Calls Tryz.prog 80 #[.string t] w fun e w' => e = .returned (cpTup (parseP t)) ∧ Below w.heap.size w w' := by
  have HS := Lib.hid (fun W hW => split_pcs t W (by omega) hW)
  have HV := Lib.hid hV
  have hpz := fun p (h : p ∈ pcs t) => piece_size h
  clear hV
  by_cases h5 : (pcs t).length = 5
  · obtain ⟨p0, p1, p2, p3, p4, hl⟩ := five_of h5
    have HR := Lib.hid (parseP_five hl)
    rw [hl] at HS
    have z2 := hpz p2 (by rw [hl]; simp)
    have z3 := hpz p3 (by rw [hl]; simp)
    have z1 := hpz p1 (by rw [hl]; simp)
    clear hpz h5 hl
    have zu : (unhexB p3).1.size ≤ p3.size := unhexB_le p3
    obtain ⟨res, hres⟩ : ∃ res, res = parseP t := ⟨_, rfl⟩
    rw [← hres] at HR ⊢
    clear hres
    have HA := Lib.hid (fun W hW => atoi_anyV p2 W (by omega) hW)
    have HU := Lib.hid (fun W => unhex_any p3 W (by omega))
    have hc : cand p1 p2 p3 = (p1, (atoiR p2).1, (unhexB p3).1) := rfl
    rw [hc] at HR
    clear hc
    unfold AtoiPostV at HA
    generalize (unhexB p3).2 = ub at HU
    generalize (unhexB p3).1 = u at HU HR zu
    generalize (atoiR p2).1 = n at HA HR
    generalize (atoiR p2).2 = nok at HA HR
    have HT := Lib.hid (fun W hW => text_any p1 n u W (by omega) (by omega) hW)
    have hk : takes (p1, n, u) t = (decide ((cpV p1 n u).2 = 0) && decide ((cpV p1 n u).1 = t)) := rfl
    rw [hk] at HR
    clear hk
    generalize cpV p1 n u = q at HT HR
    go_enter Tryz.func80, Tryz.ntmps80
    go_wp2_with fail
    refine (HS.out _ (HV.out.alloc _)).mono ?_
    rintro e w1 ⟨rfl, rfl⟩
    go_wp2_with fail
    have h2 : PBun w (((w.alloc (.cells #[.string ⟨#[]⟩, .int .i64 0, .string ⟨#[]⟩] 28)).alloc (.cells #[.string p0, .string p1, .string p2, .string p3, .string p4] 9)).alloc (.cells #[.string p1, .int .i64 0, .string ⟨#[]⟩] 28)) w.heap.size (w.heap.size + 1) #[.string p0, .string p1, .string p2, .string p3, .string p4] p1 0 ⟨#[]⟩ := by
      refine ⟨blk_alloc (blk_new1 _ _ _) _, blk_alloc (blk_new2 _ _ _) _, ?_, Nat.lt_succ_self _, (((Below.refl _ _).alloc (Nat.le_refl _) _).alloc (by rw [size_alloc]; omega) _).alloc (by rw [size_alloc, size_alloc]; omega) _, Nat.le_refl _⟩
      have h := blk_new ((w.alloc (.cells #[.string ⟨#[]⟩, .int .i64 0, .string ⟨#[]⟩] 28)).alloc (.cells #[.string p0, .string p1, .string p2, .string p3, .string p4] 9)) (.cells #[.string p1, .int .i64 0, .string ⟨#[]⟩] 28)
      rw [size_alloc, size_alloc] at h
      exact h
    refine (HA.out _ (HV.out.below h2.below)).mono ?_
    rintro e w2 ⟨er, rfl, hEr, hb⟩
    have H3 := Lib.hid (h2.later hb)
    have HEr := Lib.hid hEr
    clear hb h2 hEr
    have k1 := H3.out.at_.cells.2.1
    have f1 := free_of_blk H3.out.at_ 1
    have d3 := cell_of_blk H3.out.pc 3 rfl
    go_wp2_with fail
    have H4 := Lib.hid (H3.out.set1 n)
    generalize w2.setCell ⟨w.heap.size + 1 + 1, 1, none⟩ (.int .i64 n) = w2' at H4 ⊢
    refine (HU.out _).mono ?_
    rintro e w3 ⟨rfl, hb⟩
    have H5 := Lib.hid (H4.out.later hb)
    clear hb k1 f1 d3 H3 H4
    obtain ⟨k0, k1, k2⟩ := H5.out.at_.cells
    have f2 := free_of_blk H5.out.at_ 2
    go_wp2_with fail
    have H6 := Lib.hid (H5.out.set2 u)
    generalize w3.setCell ⟨w.heap.size + 1 + 1, 2, none⟩ (.string u) = w3' at H6 ⊢
    refine (HT.out _ (HV.out.below H6.out.below)).mono ?_
    rintro e w4 ⟨rfl, hb⟩
    have H7 := Lib.hid (H6.out.later hb)
    clear hb k0 k1 k2 f2 H5 H6
    obtain ⟨k0, k1, k2⟩ := H7.out.at_.cells
    obtain ⟨o0, o1, o2⟩ := H7.out.out.cells
    have fo0 := free_of_blk H7.out.out 0
    have fo1 := free_of_blk H7.out.out 1
    have fo2 := free_of_blk H7.out.out 2
    rcases HEr.out with ⟨rfl, rfl⟩ | ⟨rfl, ty, N, rfl⟩
    · by_cases hq2 : q.2 = 0
      · have hq2b : (q.2 == 0) = true := beq_iff_eq.2 hq2
        have hq2n : (q.2 != 0) = false := by rw [bne, hq2b]; rfl
        by_cases hq1 : q.1 = t
        · have hq1b : (q.1.toList == t.toList) = true := by rw [hq1]; exact beq_self_eq_true _
          have hg := HR.out
          rw [decide_eq_true hq2, decide_eq_true hq1] at hg
          have HG := Lib.hid (hg.trans (if_pos rfl))
          clear hg hq1
          go_wp2_with fail
          exact cp_ret _ _ w w.heap.size p1 n u 0 (H7.out.out.set3 _ _ _) (by rw [HG.out]) (below_set3v H7.out.below (Nat.le_refl _) _ _ _) rfl rfl rfl rfl
        · have hq1b : (q.1.toList == t.toList) = false := by rw [toList_eqbV]; exact decide_eq_false hq1
          have hg := HR.out
          rw [decide_eq_true hq2, decide_eq_false hq1] at hg
          have HB := Lib.hid (hg.trans (if_neg (by decide)))
          clear hg hq1
          go_wp2_with fail
          exact cp_ret _ _ w w.heap.size ⟨#[]⟩ 0 ⟨#[]⟩ 3 (H7.out.out.set3 _ _ _) (by rw [HB.out]; rfl) (below_set3v H7.out.below (Nat.le_refl _) _ _ _) rfl rfl rfl rfl
      · have hq2b : (q.2 == 0) = false := beq_eq_false_iff_ne.2 hq2
        have hq2n : (q.2 != 0) = true := bne_iff_ne.2 hq2
        have hg := HR.out
        rw [decide_eq_false hq2] at hg
        have HB := Lib.hid (hg.trans (if_neg (by simp)))
        clear hg
        go_wp2_with fail
        exact cp_ret _ _ w w.heap.size ⟨#[]⟩ 0 ⟨#[]⟩ 3 (H7.out.out.set3 _ _ _) (by rw [HB.out]; rfl) (below_set3v H7.out.below (Nat.le_refl _) _ _ _) rfl rfl rfl rfl
    · have HB := Lib.hid (HR.out.trans (if_neg (by simp)))
      go_wp2_with fail
      exact cp_ret _ _ w w.heap.size ⟨#[]⟩ 0 ⟨#[]⟩ 3 (H7.out.out.set3 _ _ _) (by rw [HB.out]; rfl) (below_set3v H7.out.below (Nat.le_refl _) _ _ _) rfl rfl rfl rfl
  · have HB := Lib.hid (parseP_other h5)
    have hi : ¬ ((pcs t).length : Int) = 5 := by omega
    have hi2 : (((pcs t).length : Int) != 5) = true := bne_iff_ne.2 hi
    have hi3 : (((pcs t).length : Int) == 5) = false := beq_eq_false_iff_ne.2 hi
    clear h5 hpz
    generalize pcs t = L at HS hi hi2 hi3
    go_enter Tryz.func80, Tryz.ntmps80
    go_wp2_with fail
    refine (HS.out _ (HV.out.alloc _)).mono ?_
    rintro e w1 ⟨rfl, hw1⟩
    have hO : CpAt w1 w.heap.size ⟨#[]⟩ 0 ⟨#[]⟩ := by rw [hw1]; exact blk_new1 _ _ _
    have hK : Below w.heap.size w w1 := by rw [hw1]; exact ((Below.refl _ _).alloc (Nat.le_refl _) _).alloc (by rw [size_alloc]; omega) _
    have HO := Lib.hid hO
    have HK := Lib.hid hK
    obtain ⟨o0, o1, o2⟩ := hO.cells
    have fo0 := free_of_blk hO 0
    have fo1 := free_of_blk hO 1
    have fo2 := free_of_blk hO 2
    clear hw1 hO hK
    go_wp2_with fail
    exact cp_ret _ _ w w.heap.size ⟨#[]⟩ 0 ⟨#[]⟩ 3 (HO.out.set3 _ _ _) (by rw [HB.out]; rfl) (below_set3v HK.out (Nat.le_refl _) _ _ _) rfl rfl rfl rfl
end Go.Proofs.YtmejjphliaiamaaGreatDoor
