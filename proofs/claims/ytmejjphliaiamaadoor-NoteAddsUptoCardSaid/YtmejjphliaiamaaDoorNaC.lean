import Derived.Test.YtmejjphliaiamaaDoorNaB
set_option linter.unusedVariables false
set_option linter.unusedSimpArgs false
namespace Go.Proofs.YtmejjphliaiamaaDoor
open Go Go.RowKit Go.Lib

/-! ### the law of adding -/
theorem addV_size (s : ByteArray) (y : SigT) : (addV s y).1.size ≤ s.size + 60000 := by
  unfold addV
  split
  · rcases fmtV_cases (readP s).1.1 (addL (readP s).1.2 y) with h | ⟨z, h, hz⟩
    · rw [h]; exact Nat.zero_le _
    · rw [h]
      have := (readP_bd s).1.2
      show z.size ≤ _
      omega
  · exact Nat.zero_le _
theorem cap_a {a b k : Nat} (h : b ≤ a + 60000) (h2 : a ≤ 2300000 + 60000 * k) : b ≤ 2300000 + 60000 * (k + 1) := by
  rw [Nat.mul_succ, ← Nat.add_assoc]
  exact Nat.le_trans h (Nat.add_le_add_right h2 _)
theorem cap_b {a k : Nat} (h2 : a ≤ 2300000 + 60000 * k) : a ≤ 2300000 + 60000 * (k + 1) := Nat.le_trans h2 (Nat.add_le_add_left (Nat.mul_le_mul_left _ (Nat.le_succ k)) _)
theorem cap_c {a k m : Nat} (h2 : a ≤ 2300000 + 60000 * k) (h : k < m) (h3 : m ≤ 20) : a ≤ 50000000 :=
  Nat.le_trans h2 (Nat.le_trans (Nat.add_le_add_left (Nat.mul_le_mul_left 60000 (show k ≤ 20 by omega)) _) (by decide))
def NaRel (m : Nat) (w : World) (s i : Value) (wr : World) : Prop := ∃ (k : Nat) (cur : ByteArray), k ≤ m ∧ i = .int .i64 k ∧ s = .string cur ∧ cur.size ≤ 2300000 + 60000 * k ∧ Below w.heap.size w wr

set_option maxRecDepth 100000 in
set_option maxHeartbeats 2000000 in
theorem adds_any (s t : ByteArray) (ad bd : Option Addr) (L M : List SigT) (c d : Nat) (w : World) (hs : s.size ≤ 2097152) (ht : t.size ≤ 2097152) (hn : L.length ≤ 2097152) (hm : M.length ≤ 2097152) (hcd : M.length ≤ d) (hL : SigsM w ad L) (hM : SigsM w bd M) (hV : VarsV w) :
    Calls Tryd.prog 6 #[.string s, .agg #[.string t, .slice ad L.length c], .slice bd M.length d] w fun e w' => e = .returned (.bool true) ∧ Below w.heap.size w w' := by
  have HV := Lib.hid hV
  have HL := Lib.hid hL
  have HM := Lib.hid hM
  have HTe := Lib.hid (fun W hW => tells_any W hW)
  have HG := Lib.hid (fun W h1 => rformat_any t ad L c W (by omega) (by omega) h1)
  have hfc := fmtV_cases t L
  obtain ⟨m, hm1⟩ : ∃ m : Nat, m = min M.length 20 := ⟨_, rfl⟩
  have hmi : min (M.length : Int) 20 = (m : Int) := by omega
  have hm2 : m ≤ M.length := by omega
  have hm3 : m ≤ 20 := by omega
  have hmc : (m : Int) ≤ (d : Int) := by omega
  clear hV hL hM hm1
  have hk0 : Below w.heap.size w (w.alloc (.cells #[.string t, .slice ad L.length c] 33)) := (Below.refl _ _).alloc (Nat.le_refl _) _
  have HK0 := Lib.hid hk0
  clear hk0
  go_enter Tryd.func6, Tryd.ntmps6
  go_wp2_with fail
  refine (HTe.out _ (HV.out.below HK0.out)).mono ?_
  rintro e w1 ⟨rfl, hb⟩
  have HN1 := Lib.hid (show NtAt w1 w.heap.size t (.slice ad L.length c) from blk_later (blk_new _ _) hb)
  have HK1 := Lib.hid (HK0.out.trans (hb.mono HK0.out.size))
  clear hb HK0
  have n0 := cell_of_blk HN1.out 0 (v := .string t) rfl
  have n1 := cell_of_blk HN1.out 1 (v := .slice ad L.length c) rfl
  go_wp2_with fail
  refine (HG.out _ (HL.out.below HK1.out)).mono ?_
  rintro e w2 ⟨rfl, hb⟩
  have HK2 := Lib.hid (HK1.out.trans (hb.mono HK1.out.size))
  clear hb n0 n1
  rcases hfc with hq | ⟨z, hq, hzz⟩
  case' inl =>
    have hsz : s.size ≤ 2300000 := by omega
    have HSz := Lib.hid hsz
  case' inr =>
    have hsz : z.size ≤ 2300000 := by omega
    have HSz := Lib.hid hsz
  all_goals
    rw [hq]
    clear hq hsz
    go_wp2_with fail
    go_loopw [0, 31] (fun s i wr => NaRel m w s i wr) (fun _ i _ => m - (intOf i).toNat)
    case atStart => exact ⟨0, _, Nat.zero_le _, rfl, rfl, Nat.le_trans HSz.out (Nat.le_add_right _ _), HK2.out⟩
    case round =>
      obtain ⟨k, cur, hk, rfl, rfl, hcz, hb⟩ := hrel
      have HB := Lib.hid hb
      have hms := HM.out.below hb
      clear hb
      by_cases hlt : k < m
      · obtain ⟨pb, po, rfl, s0, s1⟩ := hms k M[k] (List.getElem?_eq_getElem (by omega))
        generalize M[k] = y at s0 s1
        have hk0 : (0 : Int) ≤ (k : Int) := Int.natCast_nonneg _
        have hk1 : (k : Int) < (m : Int) := by omega
        have HA := Lib.hid (fun W hW => add_any cur y W (cap_c hcz hlt hm3) hW)
        have HR := Lib.hid (fun W => radd_any cur y W (cap_c hcz hlt hm3))
        have hz := addV_size cur y
        generalize addV cur y = q at HA HR hz
        have hz1 : q.1.size ≤ 2300000 + 60000 * (k + 1) := cap_a hz hcz
        have hz2 : cur.size ≤ 2300000 + 60000 * (k + 1) := cap_b hcz
        have HZ1 := Lib.hid hz1
        have HZ2 := Lib.hid hz2
        clear hz1 hz2 hz hcz
        have hq1 : (q.1.toList == q.1.toList) = true := beq_self_eq_true _
        have hq2 : (q.2 == q.2) = true := beq_self_eq_true _
        have hq3 : (q.2 != q.2) = false := by rw [bne, hq2]; rfl
        clear hms
        go_wp2_with fail
        clear s0 s1
        have hx : ∀ o, Below w.heap.size w (wr.alloc o) := fun o => HB.out.alloc HB.out.size o
        have hxb : (wr.alloc (.cells #[.string y.1, .string y.2] 39)).heap[wr.heap.size]? = some (.cells #[.string y.1, .string y.2] 39 (0, 0)) := blk_new _ _
        have HX := Lib.hid (hx (.cells #[.string y.1, .string y.2] 39))
        have HXb := Lib.hid hxb
        clear hx hxb
        refine (HA.out _ (HV.out.below HX.out)).mono ?_
        rintro e w5 ⟨rfl, hb⟩
        have hx5 := blk_later HXb.out hb
        have HK5 := Lib.hid (HX.out.trans (hb.mono HX.out.size))
        have x0 := cell_of_blk hx5 0 (v := .string y.1) rfl
        have x1 := cell_of_blk hx5 1 (v := .string y.2) rfl
        clear hb hx5
        go_wp2_with fail
        refine (HR.out _).mono ?_
        rintro e w6 ⟨rfl, hb⟩
        have HK6 := Lib.hid (HK5.out.trans (hb.mono HK5.out.size))
        clear hb x0 x1
        by_cases hq : q.2 = 0
        · have hqb : (q.2 == 0) = true := beq_iff_eq.2 hq
          go_wp2_with fail
          refine ⟨⟨k + 1, q.1, hlt, rfl, rfl, HZ1.out, HK6.out⟩, ?_⟩
          show m - ((k : Int) + 1).toNat < m - (k : Int).toNat
          omega
        · have hqb : (q.2 == 0) = false := beq_eq_false_iff_ne.2 hq
          go_wp2_with fail
          refine ⟨⟨k + 1, cur, hlt, rfl, rfl, HZ2.out, HK6.out⟩, ?_⟩
          show m - ((k : Int) + 1).toNat < m - (k : Int).toNat
          omega
      · obtain rfl : k = m := by omega
        clear hms
        go_wp2_with fail
        go_ret
        exact ⟨rfl, HB.out⟩
end Go.Proofs.YtmejjphliaiamaaDoor
