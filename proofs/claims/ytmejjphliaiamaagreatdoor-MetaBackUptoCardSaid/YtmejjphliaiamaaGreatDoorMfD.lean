import Derived.Test.YtmejjphliaiamaaGreatDoorMfB
import Derived.Test.YtmejjphliaiamaaGreatDoorMfC
set_option linter.unusedVariables false
set_option linter.unusedSimpArgs false
namespace Go.Proofs.YtmejjphliaiamaaGreatDoor
open Go Go.RowKit Go.Lib Go.Sort

/-! ### a root's document, taken -/
def setF (d : DV) (f : Nat → SV) : DV := { d with s0 := f 0, s1 := f 1, s2 := f 2, s3 := f 3, s4 := f 4 }
def upF (f : Nat → SV) (k : Nat) (s : SV) : Nat → SV := fun j => if j = k then s else f j
theorem setF_set {W : World} {b : Nat} {d : DV} {f : Nat → SV} (h : DocAt W b (setF d f)) (k : Nat) (hk : k < 5) (s : SV) :
    DocAt ((W.setCell ⟨b, 3 + 2 * k, none⟩ (.slice s.ad s.n s.c)).setCell ⟨b, 3 + 2 * k + 1, none⟩ (.int .i64 s.need)) b (setF d (upF f k s)) := by
  have h0 : DocK b (setF d f) W W := ⟨h, Kp.refl _ _⟩
  match k, hk with
  | 0, _ =>
    have h1 := h0.set 3 (.slice s.ad s.n s.c) (d' := { d with s0 := ⟨s.ad, s.n, s.c, (f 0).need⟩, s1 := f 1, s2 := f 2, s3 := f 3, s4 := f 4 }) rfl
    exact (h1.set 4 (.int .i64 s.need) (d' := setF d (upF f 0 s)) rfl).1
  | 1, _ =>
    have h1 := h0.set 5 (.slice s.ad s.n s.c) (d' := { d with s0 := f 0, s1 := ⟨s.ad, s.n, s.c, (f 1).need⟩, s2 := f 2, s3 := f 3, s4 := f 4 }) rfl
    exact (h1.set 6 (.int .i64 s.need) (d' := setF d (upF f 1 s)) rfl).1
  | 2, _ =>
    have h1 := h0.set 7 (.slice s.ad s.n s.c) (d' := { d with s0 := f 0, s1 := f 1, s2 := ⟨s.ad, s.n, s.c, (f 2).need⟩, s3 := f 3, s4 := f 4 }) rfl
    exact (h1.set 8 (.int .i64 s.need) (d' := setF d (upF f 2 s)) rfl).1
  | 3, _ =>
    have h1 := h0.set 9 (.slice s.ad s.n s.c) (d' := { d with s0 := f 0, s1 := f 1, s2 := f 2, s3 := ⟨s.ad, s.n, s.c, (f 3).need⟩, s4 := f 4 }) rfl
    exact (h1.set 10 (.int .i64 s.need) (d' := setF d (upF f 3 s)) rfl).1
  | 4, _ =>
    have h1 := h0.set 11 (.slice s.ad s.n s.c) (d' := { d with s0 := f 0, s1 := f 1, s2 := f 2, s3 := f 3, s4 := ⟨s.ad, s.n, s.c, (f 4).need⟩ }) rfl
    exact (h1.set 12 (.int .i64 s.need) (d' := setF d (upF f 4 s)) rfl).1
def svs (d : DV) : Nat → SV | 0 => d.s0 | 1 => d.s1 | 2 => d.s2 | 3 => d.s3 | _ => d.s4
theorem setF_id (d : DV) : setF d (svs d) = d := rfl
def takeRN (r : RS) : Nat → List SetT × RS
  | 0 => ([], r)
  | k + 1 => ((takeRN r k).1 ++ [(takeSetP (takeRN r k).2).1], (takeSetP (takeRN r k).2).2)
theorem takeSetP_size (r : RS) : (takeSetP r).2.1.size ≤ r.1.size := (tsF_size r).2.2
theorem takeRN_size (r : RS) : ∀ k, (takeRN r k).2.1.size ≤ r.1.size
  | 0 => Nat.le_refl _
  | k + 1 => Nat.le_trans (takeSetP_size _) (takeRN_size r k)
theorem takeRN_len (r : RS) : ∀ k, (takeRN r k).1.length = k
  | 0 => rfl
  | k + 1 => by show ((takeRN r k).1 ++ [_]).length = k + 1; rw [List.length_append, takeRN_len r k]; rfl
def rt2 (r : RS) : ByteArray × RS := rRaw (takeRN r 5).2 32
def rt3 (r : RS) : ByteArray × RS := rTxt (rt2 r).2 64
/-- the sets that stand, as owned. -/
def OwnF (w : World) (base : Nat) (f : Nat → SV) (L : List SetT) : Prop := ∀ j S, L[j]? = some S → (f j).n = S.1.length ∧ (f j).need = S.2 ∧ OwnS w base (.slice (f j).ad (f j).n (f j).c) S.1
theorem OwnF.kp {Sx : Nat → Prop} {w w' : World} {base : Nat} {f : Nat → SV} {L : List SetT} (h : OwnF w base f L) (k : Kp Sx w w') (hS : ∀ g, base ≤ g → ¬ Sx g) : OwnF w' base f L :=
  fun j S hj => ⟨(h j S hj).1, (h j S hj).2.1, OwnL.kp (h j S hj).2.2 k (fun g hg => hS g (OwnL.lt (h j S hj).2.2 g hg).1)⟩
theorem OwnF.base {w : World} {base base' : Nat} {f : Nat → SV} {L : List SetT} (h : OwnF w base f L) (hb : base' ≤ base) : OwnF w base' f L :=
  fun j S hj => ⟨(h j S hj).1, (h j S hj).2.1, OwnL.base (h j S hj).2.2 (fun g hg => Nat.le_trans hb (OwnL.lt (h j S hj).2.2 g hg).1)⟩
theorem OwnF.up {w : World} {base : Nat} {f : Nat → SV} {L : List SetT} (h : OwnF w base f L) (s : SV) (S : SetT) (h1 : s.n = S.1.length) (h2 : s.need = S.2) (h3 : OwnS w base (.slice s.ad s.n s.c) S.1) : OwnF w base (upF f L.length s) (L ++ [S]) := by
  intro j T hj
  unfold upF
  by_cases e : j = L.length
  · subst e
    rw [List.getElem?_append_right (Nat.le_refl _), Nat.sub_self] at hj
    obtain rfl : S = T := by simpa using hj
    rw [if_pos rfl]
    exact ⟨h1, h2, h3⟩
  · rw [if_neg e]
    have hlt : j < L.length := by
      have := (List.getElem?_eq_some_iff.1 hj).1
      rw [List.length_append] at this
      simp at this
      omega
    rw [List.getElem?_append_left hlt] at hj
    exact h j T hj
structure RtS (W : World) (db rb qb : Nat) (d0 : DV) (L : List SetT) (r : RS) (wr : World) : Prop where
  ex : ∃ f, DocAt wr db (setF d0 f) ∧ OwnF wr W.heap.size f L
  rd : Rdr 136 wr rb r
  qs : wr.heap[qb]? = some (.cells (setPs db) 134 (0, 0))
  kp : Kp (fun k => k = db ∨ k = rb) W wr
def RtRel (W : World) (db rb qb : Nat) (d0 : DV) (r : RS) (i : Value) (wr : World) : Prop := ∃ k : Nat, k ≤ 5 ∧ i = .int .i64 k ∧ RtS W db rb qb d0 (takeRN r k).1 (takeRN r k).2 wr

set_option maxRecDepth 100000 in
set_option maxHeartbeats 1000000 in
theorem takert_any (d0 : DV) (r3 : RS) (w : World) (hs : r3.1.size ≤ 1000000000) :
    TakeC 94 d0 r3 (rt3 r3).2 (fun d W => ∃ f, d = { setF d0 f with log := (rt2 r3).1, org := (rt3 r3).1 } ∧ OwnF W (w.heap.size + 2) f (takeRN r3 5).1) w := by
  intro W db rb hB hd hr h1 h2
  have hdb : db < W.heap.size := (Array.getElem?_eq_some_iff.1 hd).1
  have e2 : rRaw (takeRN r3 5).2 32 = rt2 r3 := rfl
  have e3 : rTxt (rt2 r3).2 64 = rt3 r3 := rfl
  have hz5 := takeRN_size r3 5
  have hz2 : (rt2 r3).2.1.size ≤ (takeRN r3 5).2.1.size := by unfold rt2; exact (rRaw_size _ 32).2
  obtain ⟨A, hA⟩ : ∃ A, A = takeRN r3 5 := ⟨_, rfl⟩
  rw [← hA] at hz5 hz2 e2 ⊢
  have HA := Lib.hid hA
  have E2 := Lib.hid e2
  have E3 := Lib.hid e3
  clear hA
  generalize rt3 r3 = C at *
  generalize rt2 r3 = B at *
  have HD := Lib.hid hd
  have HR := Lib.hid hr
  clear hd hr hB e2 e3
  go_enter Tryz.func94, Tryz.ntmps94
  go_wp2_with fail
  refine (sets_any db W hdb).mono ?_
  rintro e w1 ⟨qb, rfl, hqb, hqa, hb1⟩
  have hI0 : RtS W db rb qb d0 [] r3 w1 := ⟨⟨svs d0, by rw [setF_id]; exact HD.out.later hb1, fun j S h => by simp at h⟩, blk_later HR.out hb1, hqa, Kp.of_below hb1⟩
  have HI0 := Lib.hid hI0
  clear hqa hb1 hI0 HD HR
  go_wp2_with fail
  go_loopw [9] (fun i wr => RtRel W db rb qb d0 r3 i wr) (fun i _ => 5 - (intOf i).toNat)
  case atStart => exact ⟨0, Nat.zero_le _, rfl, HI0.out⟩
  case round =>
    clear HI0
    obtain ⟨k, hk, rfl, hI⟩ := hrel
    have HI := Lib.hid hI
    obtain ⟨f, hdf, hof⟩ := hI.ex
    have HDf := Lib.hid hdf
    have HOf := Lib.hid hof
    by_cases hlt : k < 5
    case pos =>
      obtain ⟨s, hs, c1, c2⟩ := setL_at (setF d0 f) db wr hdf k hlt
      have c0 := setPs_at db qb wr hI.qs k hlt
      have hsz := takeRN_size r3 k
      have hln := takeRN_len r3 k
      have ht1 : (takeRN r3 (k + 1)).1 = (takeRN r3 k).1 ++ [(takeSetP (takeRN r3 k).2).1] := rfl
      have ht2 : (takeRN r3 (k + 1)).2 = (takeSetP (takeRN r3 k).2).2 := rfl
      have HT1 := Lib.hid ht1
      have HT2 := Lib.hid ht2
      generalize (takeRN r3 k).2 = ra at HI HT1 HT2 hsz hI
      generalize (takeRN r3 k).1 = L at HI HT1 hln hI HOf hof
      have HC := taketq_any rb ra wr (by omega) hI.rd
      unfold TqPost at HC
      generalize takeSetP ra = q at HC HT1 HT2
      have HCs := Lib.hid HC
      have f1 := free_of_blk hdf (3 + 2 * k)
      have f2 := free_of_blk hdf (3 + 2 * k + 1)
      have hk0 : (0 : Int) ≤ (k : Int) := Int.natCast_nonneg _
      have hk1 : (k : Int) < 5 := by omega
      have hlw : W.heap.size ≤ wr.heap.size := hI.kp.size
      have hqlt : qb < wr.heap.size := (Array.getElem?_eq_some_iff.1 hI.qs).1
      clear hs hI hdf hof c1 c2 f1 f2 ht1 ht2 HC
      go_wp2_with fail
      refine HCs.out.mono ?_
      rintro e w2 ⟨ad, cp, rfl, how, hk2⟩
      have hne : ¬ db = rb := by omega
      have hd2 := blk_kp HDf.out hk2.2 hne
      have ho2 : OwnF w2 W.heap.size f L := HOf.out.kp hk2.2 (fun g hg => by omega)
      have hq2 := blk_kp HI.out.qs hk2.2 (by omega)
      have hkk : Kp (fun k => k = db ∨ k = rb) W w2 := HI.out.kp.trans (hk2.2.mono (fun i hi => .inr hi))
      have how2 : OwnS w2 W.heap.size (.slice ad q.1.1.length cp) q.1.1 := OwnL.base how (fun g hg => Nat.le_trans hlw (OwnL.lt how g hg).1)
      obtain ⟨s, hs, c1, c2⟩ := setL_at (setF d0 f) db w2 hd2 k hlt
      have f1 := free_of_blk hd2 (3 + 2 * k)
      have f2 := free_of_blk hd2 (3 + 2 * k + 1)
      have hd3 := setF_set hd2 k hlt ⟨ad, q.1.1.length, cp, q.1.2⟩
      have kp3 : Kp (fun k => k = db) w2 ((w2.setCell ⟨db, 3 + 2 * k, none⟩ (.slice ad q.1.1.length cp)).setCell ⟨db, 3 + 2 * k + 1, none⟩ (.int .i64 q.1.2)) := ((Kp.refl (fun k => k = db) w2).setCell (p := ⟨db, 3 + 2 * k, none⟩) (.inl rfl) _).setCell (p := ⟨db, 3 + 2 * k + 1, none⟩) (.inl rfl) _
      have hI3 : RtS W db rb qb d0 (L ++ [q.1]) q.2 ((w2.setCell ⟨db, 3 + 2 * k, none⟩ (.slice ad q.1.1.length cp)).setCell ⟨db, 3 + 2 * k + 1, none⟩ (.int .i64 q.1.2)) := by
        refine ⟨⟨upF f L.length ⟨ad, q.1.1.length, cp, q.1.2⟩, ?_, ?_⟩, ?_, ?_, ?_⟩
        · rw [hln]; exact hd3
        · exact ((ho2.kp kp3 (fun g hg => by omega)).up ⟨ad, q.1.1.length, cp, q.1.2⟩ q.1 rfl rfl (OwnL.kp how2 kp3 (fun g hg => by have := (OwnL.lt how2 g hg).1; omega)))
        · exact blk_kp hk2.1 kp3 (by omega)
        · exact blk_kp hq2 kp3 (by omega)
        · exact hkk.trans (kp3.mono (fun i hi => .inl hi))
      have HI3 := Lib.hid hI3
      clear hk2 hd2 ho2 hq2 hkk how how2 hs hd3 kp3 hI3 HI HDf HOf HCs
      go_wp2_with fail
      have hI4 := HI3.out
      rw [← HT1.out, ← HT2.out] at hI4
      refine ⟨⟨k + 1, hlt, rfl, hI4⟩, ?_⟩
      show 5 - ((k : Int) + 1).toNat < 5 - (k : Int).toNat
      omega
    case neg =>
      obtain rfl : k = 5 := by omega
      rw [← HA.out] at hI
      clear HI
      have HI := Lib.hid hI
      clear hI hdf hof HDf HOf
      have c2 := rhash_any rb A.2 wr (by omega) HI.out.rd
      rw [E2.out] at c2
      have HC2 := Lib.hid c2
      clear c2
      go_wp2_with fail
      refine HC2.out.mono ?_
      rintro e w2 ⟨rfl, k2⟩
      have c3 := rtxt_any rb B.2 64 w2 (by decide) (by omega) k2.1
      rw [E3.out] at c3
      have HC3 := Lib.hid c3
      have HK2 := Lib.hid k2
      clear c3 k2 HC2
      go_wp2_with fail
      refine HC3.out.mono ?_
      rintro e w3 ⟨rfl, k3⟩
      have hne : ¬ db = rb := by omega
      obtain ⟨f, hdf, hof⟩ := HI.out.ex
      have hd3 := blk_kp (blk_kp hdf HK2.out.2 hne) k3.2 hne
      have ho3 : OwnF w3 W.heap.size f A.1 := (hof.kp HK2.out.2 (fun g hg => by omega)).kp k3.2 (fun g hg => by omega)
      have hk3 : Kp (fun k => k = db ∨ k = rb) W w3 := (HI.out.kp.trans (HK2.out.2.mono (fun i hi => .inr hi))).trans (k3.2.mono (fun i hi => .inr hi))
      have c13 := cell_of_blk hd3 13 (v := .string d0.log) rfl
      have c14 := cell_of_blk hd3 14 (v := .string d0.org) rfl
      have f13 := free_of_blk hd3 13
      have f14 := free_of_blk hd3 14
      have kp4 : Kp (fun k => k = db) w3 ((w3.setCell ⟨db, 13, none⟩ (.string B.1)).setCell ⟨db, 14, none⟩ (.string C.1)) := ((Kp.refl (fun k => k = db) w3).setCell (p := ⟨db, 13, none⟩) (.inl rfl) _).setCell (p := ⟨db, 14, none⟩) (.inl rfl) _
      have hd4 : DocAt ((w3.setCell ⟨db, 13, none⟩ (.string B.1)).setCell ⟨db, 14, none⟩ (.string C.1)) db { setF d0 f with log := B.1, org := C.1 } := ((DocK.set ⟨hd3, Kp.refl _ _⟩ 13 (.string B.1) (d' := { setF d0 f with log := B.1 }) rfl).set 14 (.string C.1) rfl).1
      have HD4 := Lib.hid hd4
      have HO4 := Lib.hid (ho3.kp kp4 (fun g hg => by omega))
      have HR4 := Lib.hid (blk_kp k3.1 kp4 (by omega))
      have HK4 := Lib.hid (hk3.trans (kp4.mono (fun i hi => .inl hi)))
      clear k3 hdf hof hd3 ho3 hk3 kp4 hd4 HI HK2 HC3
      go_wp2_with fail
      go_end0
      exact ⟨rfl, _, ⟨f, rfl, OwnF.base (base := W.heap.size) HO4.out (by omega)⟩, HD4.out, HR4.out, HK4.out⟩
end Go.Proofs.YtmejjphliaiamaaGreatDoor
