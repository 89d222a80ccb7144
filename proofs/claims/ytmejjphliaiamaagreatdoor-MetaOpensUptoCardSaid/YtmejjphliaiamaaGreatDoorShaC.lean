import Derived.Test.YtmejjphliaiamaaGreatDoorShaB
import Derived.Test.YtmejjphliaiamaaGreatDoorQt
set_option linter.unusedVariables false
namespace Go.Proofs.YtmejjphliaiamaaGreatDoor
open Go Go.RowKit

theorem zeros_row2 (w : World) (o1 o2 : Obj) (t : TypeId) (c : Array Value) (h : c = madeCells #[.int .u32 0] 64) :
    (((w.alloc o1).alloc o2).alloc (.cells c t)).rowIs (w.heap.size + 2) t 64 (u32V (fun _ => 0)) := by
  have e : ((w.alloc o1).alloc o2).heap.size = w.heap.size + 2 := by simp
  rw [← e]
  exact zeros_row _ t c h

theorem s_row (w : World) (S : Nat → Int) (o : Obj) : ((w.alloc (.cells #[.int .u32 (S 0), .int .u32 (S 1), .int .u32 (S 2), .int .u32 (S 3), .int .u32 (S 4), .int .u32 (S 5), .int .u32 (S 6), .int .u32 (S 7)] 151)).alloc o).rowIs w.heap.size 151 8 (u32V S) := by
  refine World.rowIs.alloc (World.rowIs_alloc w #[.int .u32 (S 0), .int .u32 (S 1), .int .u32 (S 2), .int .u32 (S 3), .int .u32 (S 4), .int .u32 (S 5), .int .u32 (S 6), .int .u32 (S 7)] 151 (u32V S) ?_) o
  intro i hi
  have h8 : i = 0 ∨ i = 1 ∨ i = 2 ∨ i = 3 ∨ i = 4 ∨ i = 5 ∨ i = 6 ∨ i = 7 := by simp at hi; omega
  rcases h8 with rfl | rfl | rfl | rfl | rfl | rfl | rfl | rfl <;> rfl
theorem s_row1 (w : World) (S : Nat → Int) : (w.alloc (.cells #[.int .u32 (S 0), .int .u32 (S 1), .int .u32 (S 2), .int .u32 (S 3), .int .u32 (S 4), .int .u32 (S 5), .int .u32 (S 6), .int .u32 (S 7)] 151)).rowIs w.heap.size 151 8 (u32V S) := by
  refine World.rowIs_alloc w #[.int .u32 (S 0), .int .u32 (S 1), .int .u32 (S 2), .int .u32 (S 3), .int .u32 (S 4), .int .u32 (S 5), .int .u32 (S 6), .int .u32 (S 7)] 151 (u32V S) ?_
  intro i hi
  have h8 : i = 0 ∨ i = 1 ∨ i = 2 ∨ i = 3 ∨ i = 4 ∨ i = 5 ∨ i = 6 ∨ i = 7 := by simp at hi; omega
  rcases h8 with rfl | rfl | rfl | rfl | rfl | rfl | rfl | rfl <;> rfl
theorem row8_set (w : World) (b : Nat) (t : TypeId) (f : Nat → Value) (v0 v1 v2 v3 v4 v5 v6 v7 : Value) (g : Nat → Value) (h : w.rowIs b t 8 f)
    (hg : g 0 = v0 ∧ g 1 = v1 ∧ g 2 = v2 ∧ g 3 = v3 ∧ g 4 = v4 ∧ g 5 = v5 ∧ g 6 = v6 ∧ g 7 = v7) :
    ((((((((w.setCell ⟨b, 0, none⟩ v0).setCell ⟨b, 1, none⟩ v1).setCell ⟨b, 2, none⟩ v2).setCell ⟨b, 3, none⟩ v3).setCell ⟨b, 4, none⟩ v4).setCell ⟨b, 5, none⟩ v5).setCell ⟨b, 6, none⟩ v6).setCell ⟨b, 7, none⟩ v7).rowIs b t 8 g := by
  refine ((((((((h.set 0 v0).set 1 v1).set 2 v2).set 3 v3).set 4 v4).set 5 v5).set 6 v6).set 7 v7).congr ?_
  obtain ⟨rfl, rfl, rfl, rfl, rfl, rfl, rfl, rfl⟩ := hg
  intro i hi
  have h8 : i = 0 ∨ i = 1 ∨ i = 2 ∨ i = 3 ∨ i = 4 ∨ i = 5 ∨ i = 6 ∨ i = 7 := by omega
  rcases h8 with rfl | rfl | rfl | rfl | rfl | rfl | rfl | rfl <;> rfl

def agg8 (F : Nat → Int) : Value := .agg #[.int .u32 (F 0), .int .u32 (F 1), .int .u32 (F 2), .int .u32 (F 3), .int .u32 (F 4), .int .u32 (F 5), .int .u32 (F 6), .int .u32 (F 7)]
def RefPost (F : Nat → Int) (w : World) (e : Ending) (w' : World) : Prop := e = .returned (agg8 F) ∧ Below w.heap.size w w'

theorem rel2_step0 {M : Nat → Int} {w wr : World} {wb : Nat} {m : Nat} (hm : m < 48) (hR : wr.rowIs wb 152 64 (u32V (arrB M m))) (hB : Below wb w wr) :
    BlkRel2 M wb w (.int .i64 (16 + ↑m + 1)) (wr.setCell ⟨wb, 16 + m, none⟩ (.int .u32 (wnext (arrB M m) m))) ∧ 48 - (intOf (.int .i64 (16 + ↑m + 1)) - 16).toNat < 48 - (intOf (.int .i64 (16 + ↑m)) - 16).toNat := by
  refine ⟨⟨m + 1, by omega, by congr 1, ?_, hB.setCell (Nat.le_refl _) _⟩, by show 48 - (16 + (m : Int) + 1 - 16).toNat < 48 - (16 + (m : Int) - 16).toNat; omega⟩
  have h := hR.set (16 + m) (.int .u32 (wnext (arrB M m) m))
  rw [u32V_upd] at h
  exact h
theorem below_drewN {B : Nat} {a w : World} (h : Below B a w) (n : Nat) : Below B a (w.drewN n) := ⟨h.os, h.tape, h.output, h.size, h.block⟩
theorem get_row {w : World} {b : Nat} {S : Nat → Int} (h : w.rowIs b 151 8 (u32V S)) : w.rowIs b 151 8 (u32V (R8.mk (S 0) (S 1) (S 2) (S 3) (S 4) (S 5) (S 6) (S 7)).get) := by
  refine h.congr ?_
  intro i hi
  have h8 : i = 0 ∨ i = 1 ∨ i = 2 ∨ i = 3 ∨ i = 4 ∨ i = 5 ∨ i = 6 ∨ i = 7 := by omega
  rcases h8 with rfl | rfl | rfl | rfl | rfl | rfl | rfl | rfl <;> rfl

/-- the rounds: the words lie in the block ub. -/
def RefRel3 (K W : Nat → Int) (r : R8) (wb ub : Nat) (w : World) (i : Value) (wr : World) : Prop :=
  ∃ t : Nat, t ≤ 64 ∧ i = .int .i64 t ∧ wr.rowIs ub 151 8 (u32V (rnds K W r t).get) ∧ wr.rowIs wb 152 64 (u32V W) ∧ Below wb w wr
def RefRel4 (S : Nat → Int) (r : R8) (sb ub wb : Nat) (w : World) (i : Value) (wr : World) : Prop :=
  ∃ k : Nat, k ≤ 8 ∧ i = .int .i64 k ∧ wr.rowIs sb 151 8 (u32V (arrS S r k)) ∧ wr.rowIs ub 151 8 (u32V r.get) ∧ Kp (fun b => b = sb ∨ wb ≤ b) w wr

theorem ref3_step {K W : Nat → Int} {r R : R8} {wb ub : Nat} {w wr : World} {t : Nat} {a' e' : Int} (ht : t < 64) (ha : a' = (rnd K W R t).a) (he : e' = (rnd K W R t).e) (hr : rnds K W r t = R) (hU : wr.rowIs ub 151 8 (u32V R.get)) (hW : wr.rowIs wb 152 64 (u32V W)) (hB : Below wb w wr) (hub : wb < ub) :
    RefRel3 K W r wb ub w (.int .i64 (↑t + 1)) ((((((((wr.setCell ⟨ub, 0, none⟩ (.int .u32 (a'))).setCell ⟨ub, 1, none⟩ (.int .u32 R.a)).setCell ⟨ub, 2, none⟩ (.int .u32 R.b)).setCell ⟨ub, 3, none⟩ (.int .u32 R.c)).setCell
      ⟨ub, 4, none⟩ (.int .u32 (e'))).setCell ⟨ub, 5, none⟩ (.int .u32 R.e)).setCell ⟨ub, 6, none⟩ (.int .u32 R.f)).setCell ⟨ub, 7, none⟩ (.int .u32 R.g)) ∧
    64 - (intOf (.int .i64 (↑t + 1))).toNat < 64 - (intOf (.int .i64 ↑t)).toNat := by
  subst hr
  subst ha
  subst he
  have hle : wb ≤ ub := Nat.le_of_lt hub
  refine ⟨⟨t + 1, by omega, rfl, row8_set wr ub _ _ _ _ _ _ _ _ _ _ _ hU ⟨rfl, rfl, rfl, rfl, rfl, rfl, rfl, rfl⟩, ?_, ?_⟩, by show 64 - ((t : Int) + 1).toNat < 64 - (t : Int).toNat; omega⟩
  · have hne : ∀ i, wb ≠ (⟨ub, i, none⟩ : Addr).block := fun i => Nat.ne_of_lt hub
    exact (((((((hW.setOther (hne 0) _).setOther (hne 1) _).setOther (hne 2) _).setOther (hne 3) _).setOther (hne 4) _).setOther (hne 5) _).setOther (hne 6) _).setOther (hne 7) _
  · exact (((((((hB.setCell (p := ⟨ub, 0, none⟩) hle _).setCell (p := ⟨ub, 1, none⟩) hle _).setCell (p := ⟨ub, 2, none⟩) hle _).setCell (p := ⟨ub, 3, none⟩) hle _).setCell (p := ⟨ub, 4, none⟩) hle _).setCell (p := ⟨ub, 5, none⟩) hle _).setCell (p := ⟨ub, 6, none⟩) hle _).setCell (p := ⟨ub, 7, none⟩) hle _

theorem ref4_step {S : Nat → Int} {r : R8} {sb ub wb : Nat} {w wr : World} {k : Nat} (hk : k < 8) (hR : wr.rowIs sb 151 8 (u32V (arrS S r k))) (hU : wr.rowIs ub 151 8 (u32V r.get)) (hB : Kp (fun b => b = sb ∨ wb ≤ b) w wr) (hub : ub ≠ sb) :
    RefRel4 S r sb ub wb w (.int .i64 (↑k + 1)) (wr.setCell ⟨sb, k, none⟩ (.int .u32 ((arrS S r k k + r.get k) % 4294967296))).drew ∧ 8 - (intOf (.int .i64 (↑k + 1))).toNat < 8 - (intOf (.int .i64 ↑k)).toNat := by
  refine ⟨⟨k + 1, by omega, rfl, ?_, hU.setOther hub _, (hB.setCell (.inl (.inl rfl)) _).drew⟩, by show 8 - ((k : Int) + 1).toNat < 8 - (k : Int).toNat; omega⟩
  have h := hR.set k (.int .u32 ((arrS S r k k + r.get k) % 4294967296))
  rw [u32V_upd] at h
  exact h

set_option maxRecDepth 100000 in
set_option maxHeartbeats 16000000 in
theorem refblock_any (kb pb po at_ len cap : Nat) (tk : TypeId) (S K M : Nat → Int) (w : World) (hK : w.rowIs kb tk 64 (u32V K))
    (hM : ∀ j, j < 64 → w.cell? ⟨pb, po + (at_ + j), none⟩ = some (.int .u8 (M j))) (hMb : ∀ j, 0 ≤ M j ∧ M j < 256) (hSb : ∀ j, 0 ≤ S j ∧ S j < 4294967296)
    (hlen : at_ + 64 ≤ len) (hl2 : len ≤ 140737488355328) :
    Calls Tryz.prog 129 #[.agg #[.int .u32 (S 0), .int .u32 (S 1), .int .u32 (S 2), .int .u32 (S 3), .int .u32 (S 4), .int .u32 (S 5), .int .u32 (S 6), .int .u32 (S 7)],
      .pointer (some ⟨kb, 0, none⟩), .slice (some ⟨pb, po, none⟩) len cap, .int .i64 at_] w (RefPost (comp K S M) w) := by
  have Hk := Lib.hid hK
  have HM := Lib.hid hM
  have HMb := Lib.hid hMb
  have HSb := Lib.hid hSb
  clear hK hM hMb hSb
  go_enter Tryz.func129, Tryz.ntmps129
  go_wp2_with fail
  have hS0 := s_row w S (.cells #[.int .u32 0, .int .u32 0, .int .u32 0, .int .u32 0, .int .u32 0, .int .u32 0, .int .u32 0, .int .u32 0] 151)
  have hR0 := blk_new2 w (.cells #[.int .u32 (S 0), .int .u32 (S 1), .int .u32 (S 2), .int .u32 (S 3), .int .u32 (S 4), .int .u32 (S 5), .int .u32 (S 6), .int .u32 (S 7)] 151) (.cells #[.int .u32 0, .int .u32 0, .int .u32 0, .int .u32 0, .int .u32 0, .int .u32 0, .int .u32 0, .int .u32 0] 151)
  have hsz0 : ((w.alloc (.cells #[.int .u32 (S 0), .int .u32 (S 1), .int .u32 (S 2), .int .u32 (S 3), .int .u32 (S 4), .int .u32 (S 5), .int .u32 (S 6), .int .u32 (S 7)] 151)).alloc (.cells #[.int .u32 0, .int .u32 0, .int .u32 0, .int .u32 0, .int .u32 0, .int .u32 0, .int .u32 0, .int .u32 0] 151)).heap.size = w.heap.size + 1 + 1 := by simp
  have hbel0 : Below w.heap.size w ((w.alloc (.cells #[.int .u32 (S 0), .int .u32 (S 1), .int .u32 (S 2), .int .u32 (S 3), .int .u32 (S 4), .int .u32 (S 5), .int .u32 (S 6), .int .u32 (S 7)] 151)).alloc (.cells #[.int .u32 0, .int .u32 0, .int .u32 0, .int .u32 0, .int .u32 0, .int .u32 0, .int .u32 0, .int .u32 0] 151)) := ((Below.refl _ _).alloc (Nat.le_refl _) _).alloc (by simp) _
  generalize (w.alloc (.cells #[.int .u32 (S 0), .int .u32 (S 1), .int .u32 (S 2), .int .u32 (S 3), .int .u32 (S 4), .int .u32 (S 5), .int .u32 (S 6), .int .u32 (S 7)] 151)).alloc (.cells #[.int .u32 0, .int .u32 0, .int .u32 0, .int .u32 0, .int .u32 0, .int .u32 0, .int .u32 0, .int .u32 0] 151) = w0 at hS0 hR0 hsz0 hbel0 ⊢
  have hz := fun c hc => zeros_row w0 152 c hc
  have Hs := Lib.hid hS0
  have Hr := Lib.hid hR0
  have Hsz := Lib.hid hsz0
  have Hbel := Lib.hid hbel0
  rw [hsz0] at hz
  have Hz := Lib.hid hz
  clear hS0 hR0 hsz0 hbel0 hz
  go_loopw [10] (fun i wr => BlkRel1 M (w.heap.size + 1 + 1) w0 i wr) (fun i _ => 16 - (intOf i).toNat)
  case atStart => exact ⟨0, Nat.zero_le _, rfl, Hz.out _ (by kernel_rfl), (Below.refl _ _).alloc (by rw [Hsz.out]; exact Nat.le_refl _) _⟩
  case round =>
    obtain ⟨k, hk, rfl, hR, hB⟩ := hrel
    have HR := Lib.hid hR
    have HB := Lib.hid hB
    clear hR hB
    by_cases hlt : k < 16
    · have w1 : IntKind.i64.wrap (((at_ : Nat) : Int) + 4 * (k : Int) + 1) = (at_ : Int) + 4 * (k : Int) + 1 := IntWalk.i64_in _ (by omega)
      have w2 : IntKind.i64.wrap (((at_ : Nat) : Int) + 4 * (k : Int) + 2) = (at_ : Int) + 4 * (k : Int) + 2 := IntWalk.i64_in _ (by omega)
      have w3 : IntKind.i64.wrap (((at_ : Nat) : Int) + 4 * (k : Int) + 3) = (at_ : Int) + 4 * (k : Int) + 3 := IntWalk.i64_in _ (by omega)
      have n1 : ((at_ : Int) + 4 * (k : Int)).toNat = at_ + 4 * k := by omega
      have n2 : ((at_ : Int) + 4 * (k : Int) + 1).toNat = at_ + (4 * k + 1) := by omega
      have n3 : ((at_ : Int) + 4 * (k : Int) + 2).toNat = at_ + (4 * k + 2) := by omega
      have n4 : ((at_ : Int) + 4 * (k : Int) + 3).toNat = at_ + (4 * k + 3) := by omega
      have cM : ∀ j, j < 64 → wr.drew.cell? ⟨pb, po + (at_ + j), none⟩ = some (.int .u8 (M j)) := fun j hj =>
        (HB.out.cell (p := ⟨pb, po + (at_ + j), none⟩) (Nat.lt_of_lt_of_le (cell_lt (HM.out j hj)) (by omega))).trans ((Hbel.out.cell (p := ⟨pb, po + (at_ + j), none⟩) (cell_lt (HM.out j hj))).trans (HM.out j hj))
      have c0 := cM (4 * k) (by omega)
      have c1 := cM (4 * k + 1) (by omega)
      have c2 := cM (4 * k + 2) (by omega)
      have c3 := cM (4 * k + 3) (by omega)
      obtain ⟨b0, b0'⟩ := HMb.out (4 * k)
      obtain ⟨b1, b1'⟩ := HMb.out (4 * k + 1)
      obtain ⟨b2, b2'⟩ := HMb.out (4 * k + 2)
      obtain ⟨b3, b3'⟩ := HMb.out (4 * k + 3)
      have r0 : 0 ≤ (at_ : Int) + 4 * (k : Int) := by omega
      have r1 : (at_ : Int) + 4 * (k : Int) < len := by omega
      have r2 : 0 ≤ (at_ : Int) + 4 * (k : Int) + 1 := by omega
      have r3 : (at_ : Int) + 4 * (k : Int) + 1 < len := by omega
      have r4 : 0 ≤ (at_ : Int) + 4 * (k : Int) + 2 := by omega
      have r5 : (at_ : Int) + 4 * (k : Int) + 2 < len := by omega
      have r6 : 0 ≤ (at_ : Int) + 4 * (k : Int) + 3 := by omega
      have r7 : (at_ : Int) + 4 * (k : Int) + 3 < len := by omega
      have rk : (k : Int) < 64 := by omega
      clear cM
      go_wp2_with fail
      refine wp_region_still_tail 31 (by kernel_rfl) (by kernel_rfl) ?_
      simp only [List.take_succ_cons, List.take_zero, List.drop_succ_cons, List.drop_zero]
      show wpStill _ _ (World.drew _) _ _ _
      repeat still_step
      refine wpStill_nil ?_
      show wpList _ _ _ _ _ (World.drew _)
      have cw := HR.out.cell (i := k) (by omega)
      have fw := HR.out.frozen k
      go_wp2_with fail
      exact rel1_step hlt HR.out HB.out
    · have hk16 : k = 16 := by omega
      rw [hk16] at HR
      have hkc : (k : Int) = 16 := by omega
      clear hk16
      go_wp2_with fail
      go_loopw [12] (fun i wr => BlkRel2 M (w.heap.size + 1 + 1) w0 i wr) (fun i _ => 48 - (intOf i - 16).toNat)
      case atStart => exact ⟨0, Nat.zero_le _, rfl, HR.out, HB.out⟩
      case round =>
        clear HR HB hk hlt hkc
        obtain ⟨m, hm, rfl, hR, hB⟩ := hrel
        have HR := Lib.hid hR
        have HB := Lib.hid hB
        clear hR hB
        by_cases hlt : m < 48
        · have q1 : (16 + (m : Int) - 15).toNat = m + 1 := by omega
          have q2 : (16 + (m : Int) - 2).toNat = m + 14 := by omega
          have cw1 : wr.cell? ⟨w.heap.size + 1 + 1, m + 1, none⟩ = some (.int .u32 (arrB M m (m + 1))) := HR.out.cell (by omega)
          have cw2 : wr.cell? ⟨w.heap.size + 1 + 1, m + 14, none⟩ = some (.int .u32 (arrB M m (m + 14))) := HR.out.cell (by omega)
          have xb := arrB_bd M m (m + 1)
          have yb := arrB_bd M m (m + 14)
          go_wp2_with fail
          clear q1 q2 cw1 cw2
          have c1 : wr.cell? ⟨w.heap.size + 1 + 1, m, none⟩ = some (.int .u32 (arrB M m m)) := HR.out.cell (by omega)
          have c2 : wr.cell? ⟨w.heap.size + 1 + 1, m + 9, none⟩ = some (.int .u32 (arrB M m (m + 9))) := HR.out.cell (by omega)
          have q1 : (16 + (m : Int) - 16).toNat = m := by omega
          have q2 : (16 + (m : Int) - 7).toNat = m + 9 := by omega
          have q3 : (16 + (m : Int)).toNat = 16 + m := by omega
          have w1 : IntKind.i64.wrap (16 + (m : Int) - 16) = 16 + (m : Int) - 16 := IntWalk.i64_in _ (by omega)
          have w2 : IntKind.i64.wrap (16 + (m : Int) - 7) = 16 + (m : Int) - 7 := IntWalk.i64_in _ (by omega)
          have r1 : 0 ≤ 16 + (m : Int) - 16 := by omega
          have r7 : (16 : Int) ≤ 16 + (m : Int) := by omega
          have r8 : (7 : Int) ≤ 16 + (m : Int) := by omega
          have r2 : 16 + (m : Int) - 16 < 64 := by omega
          have r3 : 0 ≤ 16 + (m : Int) - 7 := by omega
          have r4 : 16 + (m : Int) - 7 < 64 := by omega
          have r5 : 0 ≤ 16 + (m : Int) := by omega
          have r6 : 16 + (m : Int) < 64 := by omega
          refine wp_region_quiet_tail_drew 29 (by kernel_rfl) (by kernel_rfl) ?_
          simp only [List.take_succ_cons, List.take_zero, List.drop_succ_cons, List.drop_zero]
          repeat quiet_step (fail)
          quiet_step (exact Calls.quiet_of (right_7 _ _ xb.1 xb.2))
          repeat quiet_step (fail)
          quiet_step (exact Calls.quiet_of (right_18 _ _ xb.1 xb.2))
          repeat quiet_step (fail)
          quiet_step (exact Calls.quiet_of (right_17 _ _ yb.1 yb.2))
          repeat quiet_step (fail)
          quiet_step (exact Calls.quiet_of (right_19 _ _ yb.1 yb.2))
          repeat quiet_step (fail)
          refine wpQuiet_nil ?_
          rintro _ ⟨nq, rfl⟩
          have cw : (wr.drewN nq).cell? ⟨w.heap.size + 1 + 1, 16 + m, none⟩ = some (.int .u32 (arrB M m (16 + m))) := HR.out.cell (by omega)
          have fw : (wr.drewN nq).frozen? ⟨w.heap.size + 1 + 1, 16 + m, none⟩ = false := HR.out.frozen (16 + m)
          go_wp2_with fail
          exact rel2_step0 (wr := wr.drewN nq) hlt HR.out (below_drewN HB.out nq)
        · have hm48 : m = 48 := by omega
          rw [hm48] at HR
          have hmc : (m : Int) = 48 := by omega
          clear hlt hm hm48
          have hsb : wr.rowIs w.heap.size 151 8 (u32V S) := Hs.out.of_block (HB.out.block _ (by omega))
          have s0 : wr.cell? ⟨w.heap.size, 0, none⟩ = some (.int .u32 (S 0)) := hsb.cell (by omega)
          have s1 : wr.cell? ⟨w.heap.size, 1, none⟩ = some (.int .u32 (S 1)) := hsb.cell (by omega)
          have s2 : wr.cell? ⟨w.heap.size, 2, none⟩ = some (.int .u32 (S 2)) := hsb.cell (by omega)
          have s3 : wr.cell? ⟨w.heap.size, 3, none⟩ = some (.int .u32 (S 3)) := hsb.cell (by omega)
          have s4 : wr.cell? ⟨w.heap.size, 4, none⟩ = some (.int .u32 (S 4)) := hsb.cell (by omega)
          have s5 : wr.cell? ⟨w.heap.size, 5, none⟩ = some (.int .u32 (S 5)) := hsb.cell (by omega)
          have s6 : wr.cell? ⟨w.heap.size, 6, none⟩ = some (.int .u32 (S 6)) := hsb.cell (by omega)
          have s7 : wr.cell? ⟨w.heap.size, 7, none⟩ = some (.int .u32 (S 7)) := hsb.cell (by omega)
          clear hsb
          go_wp2_with fail
          clear s0 s1 s2 s3 s4 s5 s6 s7 hmc
          have hub : w.heap.size + 1 + 1 < wr.heap.size := HR.out.lt
          have hu := get_row (s_row1 wr S)
          have HU := Lib.hid hu
          clear hu
          generalize hU2 : wr.heap.size = ub at hub HU ⊢
          have HU2 := Lib.hid hU2
          clear hU2
          go_loopw [16] (fun i wr => RefRel3 K (arrB M 48) ⟨S 0, S 1, S 2, S 3, S 4, S 5, S 6, S 7⟩ (w.heap.size + 1 + 1) ub w0 i wr) (fun i _ => 64 - (intOf i).toNat)
          case atStart => exact ⟨0, Nat.zero_le _, rfl, HU.out, HR.out.alloc _, HB.out.alloc (by rw [HU2.out]; omega) _⟩
          case round =>
            clear HU HU2 HR HB
            obtain ⟨t, ht, rfl, hU, hR, hB⟩ := hrel
            have HR := Lib.hid hR
            have HB := Lib.hid hB
            have HU := Lib.hid hU
            clear hR hB hU
            by_cases hlt : t < 64
            · have rb := rnds_bd K (arrB M 48) ⟨S 0, S 1, S 2, S 3, S 4, S 5, S 6, S 7⟩ (r8_bd HSb.out) t
              generalize hr : rnds K (arrB M 48) ⟨S 0, S 1, S 2, S 3, S 4, S 5, S 6, S 7⟩ t = R at rb HU ⊢
              have Hr3 := Lib.hid hr
              clear hr
              obtain ⟨⟨a0, a1⟩, ⟨b0, b1⟩, ⟨x0, x1⟩, ⟨d0, d1⟩, ⟨e0, e1⟩, ⟨f0, f1⟩, ⟨g0, g1⟩, ⟨h0, h1⟩⟩ := rb
              have ck : wr.cell? ⟨kb, t, none⟩ = some (.int .u32 (K t)) := (HB.out.cell (p := ⟨kb, t, none⟩) (Nat.lt_of_lt_of_le Hk.out.lt (by show w.heap.size ≤ w.heap.size + 1 + 1; omega))).trans ((Hbel.out.cell (p := ⟨kb, t, none⟩) Hk.out.lt).trans (Hk.out.cell hlt))
              have cw : wr.cell? ⟨w.heap.size + 1 + 1, t, none⟩ = some (.int .u32 (arrB M 48 t)) := HR.out.cell hlt
              have u0 : wr.cell? ⟨ub, 0, none⟩ = some (.int .u32 R.a) := HU.out.cell (by omega)
              have u1 : wr.cell? ⟨ub, 1, none⟩ = some (.int .u32 R.b) := HU.out.cell (by omega)
              have u2 : wr.cell? ⟨ub, 2, none⟩ = some (.int .u32 R.c) := HU.out.cell (by omega)
              have u3 : wr.cell? ⟨ub, 3, none⟩ = some (.int .u32 R.d) := HU.out.cell (by omega)
              have u4 : wr.cell? ⟨ub, 4, none⟩ = some (.int .u32 R.e) := HU.out.cell (by omega)
              have u5 : wr.cell? ⟨ub, 5, none⟩ = some (.int .u32 R.f) := HU.out.cell (by omega)
              have u6 : wr.cell? ⟨ub, 6, none⟩ = some (.int .u32 R.g) := HU.out.cell (by omega)
              have u7 : wr.cell? ⟨ub, 7, none⟩ = some (.int .u32 R.h) := HU.out.cell (by omega)
              have fu : ∀ i, wr.frozen? ⟨ub, i, none⟩ = false := HU.out.frozen
              have r1 : (0 : Int) ≤ (t : Int) := by omega
              have r2 : (t : Int) < 64 := by omega
              go_wp2_with fail
              refine wp_region_quiet_lit (by kernel_rfl) (by kernel_rfl) ?_
              repeat quiet_step (fail)
              quiet_step (exact Calls.quiet_of (right_6 _ _ e0 e1))
              repeat quiet_step (fail)
              quiet_step (exact Calls.quiet_of (right_11 _ _ e0 e1))
              repeat quiet_step (fail)
              quiet_step (exact Calls.quiet_of (right_25 _ _ e0 e1))
              repeat quiet_step (fail)
              refine wpQuiet_nil ?_
              rintro _ ⟨nq, rfl⟩
              clear ck cw u0 u1 u2 u3 u4 u5 u6 u7 fu
              have HR2 : Hid ((wr.drewN nq).rowIs (w.heap.size + 1 + 1) 152 64 (u32V (arrB M 48))) := HR.out
              have HB2 : Hid (Below (w.heap.size + 1 + 1) w0 (wr.drewN nq)) := below_drewN HB.out nq
              have HU2 : Hid ((wr.drewN nq).rowIs ub 151 8 (u32V R.get)) := HU.out
              clear HR HB HU
              generalize wr.drewN nq = W2 at HR2 HB2 HU2 ⊢
              simp only [IntKind.wrap_u32]
              have u1 : W2.cell? ⟨ub, 1, none⟩ = some (.int .u32 R.b) := HU2.out.cell (by omega)
              have u2 : W2.cell? ⟨ub, 2, none⟩ = some (.int .u32 R.c) := HU2.out.cell (by omega)
              go_wp2_with fail
              refine wp_region_quiet_lit (by kernel_rfl) (by kernel_rfl) ?_
              repeat quiet_step (fail)
              quiet_step (exact Calls.quiet_of (right_2 _ _ a0 a1))
              repeat quiet_step (fail)
              quiet_step (exact Calls.quiet_of (right_13 _ _ a0 a1))
              repeat quiet_step (fail)
              quiet_step (exact Calls.quiet_of (right_22 _ _ a0 a1))
              repeat quiet_step (fail)
              refine wpQuiet_nil ?_
              rintro _ ⟨nq2, rfl⟩
              clear u1 u2
              have HR : Hid ((W2.drewN nq2).rowIs (w.heap.size + 1 + 1) 152 64 (u32V (arrB M 48))) := HR2.out
              have HB : Hid (Below (w.heap.size + 1 + 1) w0 (W2.drewN nq2)) := below_drewN HB2.out nq2
              have HU : Hid ((W2.drewN nq2).rowIs ub 151 8 (u32V R.get)) := HU2.out
              clear HR2 HB2 HU2
              generalize W2.drewN nq2 = W3 at HR HB HU ⊢
              simp only [IntKind.wrap_u32]
              have u0 : W3.cell? ⟨ub, 0, none⟩ = some (.int .u32 R.a) := HU.out.cell (by omega)
              have u1 : W3.cell? ⟨ub, 1, none⟩ = some (.int .u32 R.b) := HU.out.cell (by omega)
              have u2 : W3.cell? ⟨ub, 2, none⟩ = some (.int .u32 R.c) := HU.out.cell (by omega)
              have u3 : W3.cell? ⟨ub, 3, none⟩ = some (.int .u32 R.d) := HU.out.cell (by omega)
              have u4 : W3.cell? ⟨ub, 4, none⟩ = some (.int .u32 R.e) := HU.out.cell (by omega)
              have u5 : W3.cell? ⟨ub, 5, none⟩ = some (.int .u32 R.f) := HU.out.cell (by omega)
              have u6 : W3.cell? ⟨ub, 6, none⟩ = some (.int .u32 R.g) := HU.out.cell (by omega)
              have u7 : W3.cell? ⟨ub, 7, none⟩ = some (.int .u32 R.h) := HU.out.cell (by omega)
              have fu : ∀ i, W3.frozen? ⟨ub, i, none⟩ = false := HU.out.frozen
              go_wp2_with fail
              refine ref3_step hlt ?_ ?_ Hr3.out HU.out HR.out HB.out hub
              · simp only [rnd, rndP, rndQ]; omega
              · simp only [rnd, rndP]; omega
            · have ht64 : t = 64 := by omega
              have htc : (t : Int) = 64 := by omega
              have hdef : comp K S M = arrS S (rnds K (arrB M 48) ⟨S 0, S 1, S 2, S 3, S 4, S 5, S 6, S 7⟩ t) 8 := by rw [ht64]; rfl
              have rb := rnds_bd K (arrB M 48) ⟨S 0, S 1, S 2, S 3, S 4, S 5, S 6, S 7⟩ (r8_bd HSb.out) t
              have Hrb := Lib.hid rb
              have Hdef := Lib.hid hdef
              clear rb hdef ht64 ht hlt
              generalize rnds K (arrB M 48) ⟨S 0, S 1, S 2, S 3, S 4, S 5, S 6, S 7⟩ t = R at Hrb Hdef HU ⊢
              go_wp2_with fail
              clear htc
              go_loopw [21] (fun i wr => RefRel4 S R w.heap.size ub (w.heap.size + 1 + 1) w0 i wr) (fun i _ => 8 - (intOf i).toNat)
              case atStart => exact ⟨0, Nat.zero_le _, rfl, Hs.out.of_block (HB.out.block _ (by omega)), HU.out, ⟨HB.out.os, HB.out.tape, HB.out.output, HB.out.size, fun k _ hn => HB.out.block k (by omega)⟩⟩
              case round =>
                clear HR HB HU
                obtain ⟨k, hk, rfl, hR, hU, hB⟩ := hrel
                have HR := Lib.hid hR
                have HU := Lib.hid hU
                have HB := Lib.hid hB
                clear hR hB hU
                by_cases hlt : k < 8
                · have gb := Hrb.out.get k
                  have sbd := arrS_bd HSb.out R k k
                  have c1 : wr.drew.cell? ⟨w.heap.size, k, none⟩ = some (.int .u32 (arrS S R k k)) := HR.out.cell hlt
                  have c3 : wr.drew.cell? ⟨ub, k, none⟩ = some (.int .u32 (R.get k)) := HU.out.cell hlt
                  have c2 : wr.cell? ⟨w.heap.size, k, none⟩ = some (.int .u32 (arrS S R k k)) := HR.out.cell hlt
                  have fw := HR.out.frozen k
                  have r1 : (0 : Int) ≤ (k : Int) := by omega
                  have r2 : (k : Int) < 8 := by omega
                  go_wp2_with fail
                  refine wp_region_still_tail 9 (by kernel_rfl) (by kernel_rfl) ?_
                  simp only [List.take_succ_cons, List.take_zero, List.drop_succ_cons, List.drop_zero]
                  show wpStill _ _ (World.drew _) _ _ _
                  repeat still_step
                  refine wpStill_nil ?_
                  show wpList _ _ _ _ _ (World.drew _)
                  go_wp2_with fail
                  exact ref4_step hlt HR.out HU.out HB.out (by omega)
                · have hk8 : k = 8 := by omega
                  have hkc : (k : Int) = 8 := by omega
                  rw [hk8, ← Hdef.out] at HR
                  clear hk8 hk hlt
                  generalize hF : comp K S M = F at HR
                  have HF := Lib.hid hF
                  clear hF
                  have s0 : wr.cell? ⟨w.heap.size, 0, none⟩ = some (.int .u32 (F 0)) := HR.out.cell (by omega)
                  have s1 : wr.cell? ⟨w.heap.size, 1, none⟩ = some (.int .u32 (F 1)) := HR.out.cell (by omega)
                  have s2 : wr.cell? ⟨w.heap.size, 2, none⟩ = some (.int .u32 (F 2)) := HR.out.cell (by omega)
                  have s3 : wr.cell? ⟨w.heap.size, 3, none⟩ = some (.int .u32 (F 3)) := HR.out.cell (by omega)
                  have s4 : wr.cell? ⟨w.heap.size, 4, none⟩ = some (.int .u32 (F 4)) := HR.out.cell (by omega)
                  have s5 : wr.cell? ⟨w.heap.size, 5, none⟩ = some (.int .u32 (F 5)) := HR.out.cell (by omega)
                  have s6 : wr.cell? ⟨w.heap.size, 6, none⟩ = some (.int .u32 (F 6)) := HR.out.cell (by omega)
                  have s7 : wr.cell? ⟨w.heap.size, 7, none⟩ = some (.int .u32 (F 7)) := HR.out.cell (by omega)
                  have hres := blk_kp Hr.out HB.out (by omega)
                  have d0 := cell_of_blk hres 0 rfl
                  have d1 := cell_of_blk hres 1 rfl
                  have d2 := cell_of_blk hres 2 rfl
                  have d3 := cell_of_blk hres 3 rfl
                  have d4 := cell_of_blk hres 4 rfl
                  have d5 := cell_of_blk hres 5 rfl
                  have d6 := cell_of_blk hres 6 rfl
                  have d7 := cell_of_blk hres 7 rfl
                  have fd := fun i => free_of_blk hres i
                  clear hres
                  go_wp2_with fail
                  refine bodyPost_ret (v := agg8 F) (by simp [results, Tryz.results129, agg8, go_sem, d0, d1, d2, d3, d4, d5, d6, d7]) rfl ⟨by rw [HF.out], ?_⟩
                  have hk : Below w.heap.size w0 wr := Kp.toBelow HB.out (by rw [Hsz.out]; omega) (fun i h => by omega)
                  have hle : w.heap.size ≤ w.heap.size + 1 := Nat.le_succ _
                  have hb := Hbel.out.trans hk
                  exact (((((((hb.setCell (p := ⟨w.heap.size + 1, 0, none⟩) hle _).setCell (p := ⟨w.heap.size + 1, 1, none⟩) hle _).setCell (p := ⟨w.heap.size + 1, 2, none⟩) hle _).setCell (p := ⟨w.heap.size + 1, 3, none⟩) hle _).setCell (p := ⟨w.heap.size + 1, 4, none⟩) hle _).setCell
                    (p := ⟨w.heap.size + 1, 5, none⟩) hle _).setCell (p := ⟨w.heap.size + 1, 6, none⟩) hle _).setCell (p := ⟨w.heap.size + 1, 7, none⟩) hle _
end Go.Proofs.YtmejjphliaiamaaGreatDoor
