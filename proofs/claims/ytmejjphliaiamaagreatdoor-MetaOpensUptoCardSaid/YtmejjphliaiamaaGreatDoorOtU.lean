import Derived.Test.YtmejjphliaiamaaGreatDoorMgC
import Derived.Laws.OwnMore
import Derived.BigQuiet
set_option linter.unusedVariables false
set_option linter.unusedSimpArgs false
namespace Go.Proofs.YtmejjphliaiamaaGreatDoor
open Go Go.RowKit Go.Lib Go.Sort

/-! ### texts, rising, each once -/
section
variable {α : Type} {e : TypeId} {size : Nat} {mk : α → List Value}
theorem wpList_appM {P : Program} (w : World) {ops : Array Oper} {rest : List Oper} {o : Oper} {a : Act} {Q : Exit → Act → World → Prop} (hgd : o.guard = none) (sl x : Operand) (st : TypeId)
    (ho : o.op = .call { callee := .builtin .append, args := #[sl, x], argTypes := #[st, st] }) (i : TypeInfo) (z : Value) (bytes : Nat) (ht : P.underlying st = some (.slice e)) (hi : P.info? e = some i) (hz : i.zero = some z)
    (hsize : i.size = size) (hby : i.bytes = bytes) (hzs : z.cells.size = size) (hsz : 0 < size)
    (base : Nat) (v : Value) (l : List α) (hs : a.eval sl = v) (hown : OwnL e size mk w base v l) (ys : List α) (ad : Addr) (m c : Nat) (hx : a.eval x = .slice (some ad) m c) (hm : (ys.flatMap mk).length = m * size)
    (hc : ∀ j u, (ys.flatMap mk)[j]? = some u → w.cell? (ad.add j) = some u) (h1 : ∀ u ∈ ys.flatMap mk, u.oneCell' = true) (hym : ys.length = m) (hlen : l.length + m ≤ 1000000000) (hb2 : bytes ≤ 100) (hbase : base ≤ w.heap.size)
    (h : ∀ v' w', OwnL e size mk w' base v' (l ++ ys) → w.grownBy w' v.ownBlock → (v'.ownBlock = v.ownBlock ∨ v'.ownBlock = some w.heap.size) → wpList P ops Q rest (a.put o.dst v') w') : wpList P ops Q (o :: rest) a w := by
  refine wpList_plain hgd fun K hK => ?_
  obtain ⟨v', w', hr, h2, h3, _, h4⟩ := run_append_own_at (P := P) w base st o.type e i z size bytes ht hi hz hsize hby hzs hsz v l.length (l.flatMap mk) hown ad m c (ys.flatMap mk) hm hc h1 (by unfold maxLen; omega)
    (by have := Nat.mul_le_mul hlen hb2; omega) hbase
  unfold Oper.wp execOp
  simp only [ho, resolve, invoke, builtin, Sem.run_bind, Sem.run_pure, Result.andThen_ok, List.map_toArray, List.map_cons, List.map_nil, hs, hx, hr]
  refine hK _ _ (h v' w' ?_ h3 h4)
  unfold OwnL
  rw [List.length_append, List.flatMap_append, hym]
  exact h2
theorem wpList_appNil {P : Program} (w : World) {ops : Array Oper} {rest : List Oper} {o : Oper} {a : Act} {Q : Exit → Act → World → Prop} (hgd : o.guard = none) (sl x : Operand) (st : TypeId)
    (ho : o.op = .call { callee := .builtin .append, args := #[sl, x], argTypes := #[st, st] }) (i : TypeInfo) (ht : P.underlying st = some (.slice e)) (hi : P.info? e = some i)
    (base : Nat) (v : Value) (l : List α) (hs : a.eval sl = v) (hown : OwnL e size mk w base v l) (hx : a.eval x = .slice none 0 0)
    (h : wpList P ops Q rest (a.put o.dst v) w) : wpList P ops Q (o :: rest) a w := by
  refine wpList_plain hgd fun K hK => ?_
  have hr := run_append_owned_none (P := P) (w := w) base st o.type e i size ht hi v l.length (l.flatMap mk) hown
  unfold Oper.wp execOp
  simp only [ho, resolve, invoke, builtin, Sem.run_bind, Sem.run_pure, Result.andThen_ok, List.map_toArray, List.map_cons, List.map_nil, hs, hx, hr]
  exact hK _ _ h
end
theorem flat1 (l : List ByteArray) : (l.flatMap fun s => [Value.string s]) = l.map Value.string := by
  induction l with
  | nil => rfl
  | cons a l ih => rw [List.flatMap_cons, ih]; rfl
theorem exit_name {Q : Exit → Act → World → Prop} {e : Exit} {a : Act} {w : World} (h : ∀ w2, w2 = w → Q e a w2) : Q e a w := h w rfl
theorem below_appU {α : Type} {e : TypeId} {size : Nat} {mk : α → List Value} {B : Nat} {w wr w' : World} {v : Value} {l : List α} (hb : Below B w wr) (hO : OwnL e size mk wr B v l) (hs : B ≤ wr.heap.size) (o : Obj) (hg : (wr.alloc o).grownBy w' v.ownBlock) : Below B w w' :=
  (hb.alloc hs _).grown hg (by rw [size_alloc]; omega) (fun g hg => (hO.lt g hg).1)
def RiRel (L : List ByteArray) (w : World) (o i : Value) (wr : World) : Prop :=
  ∃ (k : Nat) (M : List ByteArray), k ≤ L.length ∧ i = .int .i64 k ∧ OwnS wr w.heap.size o M ∧ (∀ t ∈ M, t ∈ L) ∧ M.length ≤ k ∧ Below w.heap.size w wr
def RiIn (M : List ByteArray) (o : Value) (w w1 : World) (n : Value) (wr : World) : Prop :=
  ∃ m : Nat, m ≤ M.length ∧ n = .int .i64 m ∧ Below w1.heap.size w1 wr
def RiPost (L : List ByteArray) (w : World) (e : Ending) (w' : World) : Prop := ∃ v M, e = .returned v ∧ OwnS w' w.heap.size v M ∧ (∀ t ∈ M, t ∈ L) ∧ M.length ≤ L.length ∧ Below w.heap.size w w'

set_option maxRecDepth 100000 in
set_option maxHeartbeats 2000000 in
theorem rising_any (ad : Option Addr) (L : List ByteArray) (c : Nat) (w : World) (hL : TxM w ad L) (hn : L.length ≤ 1000000) :
    Calls Tryz.prog 22 #[.slice ad L.length c] w (RiPost L w) := by
  have HL := Lib.hid hL
  clear hL
  go_enter Tryz.func22, Tryz.ntmps22
  go_wp2_with fail
  go_loopw [3, 4] (fun o i wr => RiRel L w o i wr) (fun _ i _ => L.length - (intOf i).toNat)
  case atStart => exact ⟨0, [], Nat.zero_le _, rfl, ownL_nil _ _, (fun t h => by cases h), Nat.le_refl _, Below.refl _ _⟩
  case round =>
    obtain ⟨k, M, hk, rfl, hO, hM, hml, hbel⟩ := hrel
    obtain ⟨w1, hw1⟩ : ∃ w1, w1 = wr := ⟨_, rfl⟩
    subst hw1
    have HO := Lib.hid hO
    have HM := Lib.hid hM
    have HB := Lib.hid hbel
    clear hO hM hbel
    by_cases hlt : k < L.length
    · obtain ⟨pb, po, rfl, hlk⟩ := (HL.out.below HB.out) k L[k] (List.getElem?_eq_getElem hlt)
      have hmem : L[k] ∈ L := List.getElem_mem hlt
      generalize L[k] = x at hlk hmem
      have HMem := Lib.hid hmem
      have HLk := Lib.hid hlk
      have hk0 : (0 : Int) ≤ (k : Int) := Int.natCast_nonneg _
      have hk1 : (k : Int) < (L.length : Int) := by omega
      rcases HO.out.2 with ⟨rfl, h0⟩ | ⟨g, cap, cur, rfl, hbg, hcur, hcp, hcm, hcz, htk⟩
      · obtain rfl : M = [] := List.eq_nil_of_length_eq_zero h0
        go_wp2_with fail
        go_loopw [5] (fun n wr2 => n = .int .i64 0 ∧ wr2 = w1) (fun n _ => 0)
        case atStart => exact ⟨rfl, rfl⟩
        case round =>
          obtain ⟨rfl, hwr⟩ := hrel
          subst hwr
          go_wp2_with fail
          go_big_quiet (fail)
          go_wp2_with fail
          go_big_quiet (fail)
          refine exit_name (fun w2 hw2 => ?_)
          have HB3 : Hid (Below wr.heap.size wr w2) := Lib.hid (by rw [hw2]; exact ⟨rfl, rfl, rfl, Nat.le_refl _, fun _ _ => rfl⟩)
          have hx2 : w2.cell? ⟨pb, po + k, none⟩ = some (.string x) := (HB3.out.cell (cell_lt HLk.out)).trans HLk.out
          have hnil : OwnL 9 1 (fun s : ByteArray => [Value.string s]) w2 w2.heap.size (.slice none 0 0) ([] : List ByteArray) := ownL_nil _ _
          obtain ⟨i0, hi, hz0, hz1, hz2⟩ := info_parts infoStr
          have HI2 := Lib.hid hz2
          clear hz2 hw2
          go_wp2_with (first | (at_builtin; refine wpList_appNil _ rfl _ _ 22 rfl i0 Tryz.underlying22 hi w2.heap.size _ ([] : List ByteArray) rfl hnil rfl ?_) | (at_builtin; refine wpList_appL _ rfl _ _ 22 rfl i0 (.string ⟨#[]⟩) 16 Tryz.underlying22 hi hz0 hz1 HI2.out rfl (by decide) w2.heap.size _ [] rfl (OwnL.alloc hnil _) x rfl ⟨w2.heap.size, 0, none⟩ 1 rfl (one_str w2 _ _) ?_ ?_ (by decide) ?_ ?_) | fail)
          · intro u hu; simp at hu; subst hu; rfl
          · decide
          · rw [size_alloc]; omega
          intro v2 w4 ho2 hg2 hown2
          have HB4 : Hid (Below w2.heap.size w2 w4) := Lib.hid (((Below.refl w2.heap.size w2).alloc (Nat.le_refl _) (.cells #[.string x] 9)).grown hg2 (by rw [size_alloc]; omega) (fun g hg => by cases hg))
          have HO2 : Hid (OwnS w4 w2.heap.size v2 [x]) := Lib.hid ho2
          clear ho2 hg2 hown2 hx2 hnil
          go_wp2_with (first | (at_builtin; refine wpList_appNil _ rfl _ _ 22 rfl i0 Tryz.underlying22 hi w2.heap.size v2 [x] rfl HO2.out rfl ?_) | fail)
          have hbF : Below w.heap.size w w4 := HB.out.trans ((HB3.out.trans (HB4.out.mono HB3.out.size)).mono HB.out.size)
          refine ⟨⟨k + 1, [x], hlt, rfl, OwnL.base HO2.out (fun g hg => ?_), ?_, ?_, hbF⟩, ?_⟩
          · have := (OwnL.lt HO2.out g hg).1; have := HB3.out.size; have := HB.out.size; omega
          · intro t ht
            rcases List.mem_singleton.1 ht with rfl
            exact HMem.out
          · show 1 ≤ k + 1; omega
          · show L.length - ((k : Int) + 1).toNat < L.length - (k : Int).toNat
            omega
      · have hglt : g < w1.heap.size := (Array.getElem?_eq_some_iff.1 hcur).1
        have hcl : ∀ j, j < M.length → w1.cell? ⟨g, j, none⟩ = (M.map Value.string)[j]? := by
          intro j hj
          rw [← flat1, ← htk, List.getElem?_take, if_pos (by omega), Array.getElem?_toList]
          simp [World.cell?, hcur]
        have hcap : cap ≤ 9223372036854775807 := by unfold maxLen at hcm; exact hcm
        clear hcur hcz htk hcm
        go_wp2_with fail
        go_loopw [5] (fun n wr2 => RiIn M (.slice (some ⟨g, 0, none⟩) M.length cap) w w1 n wr2) (fun n _ => M.length - (intOf n).toNat)
        case atStart => exact ⟨0, Nat.zero_le _, rfl, Below.refl _ _⟩
        case round =>
          obtain ⟨m, hm, rfl, hb2⟩ := hrel
          have HB2 := Lib.hid hb2
          have HBD : Hid (∀ n, Below w1.heap.size w1 (wr.drewN n)) := Lib.hid (fun n => ⟨hb2.os, hb2.tape, hb2.output, hb2.size, hb2.block⟩)
          clear hb2
          by_cases hlt2 : m < M.length
          · have hcm1 := hcl m (by omega)
            rw [List.getElem?_map, List.getElem?_eq_getElem hlt2] at hcm1
            generalize M[m] = y at hcm1
            have hcy : wr.cell? ⟨g, m, none⟩ = some (.string y) := (HB2.out.cell (cell_lt hcm1)).trans hcm1
            have hcx : wr.cell? ⟨pb, po + k, none⟩ = some (.string x) := (HB2.out.cell (cell_lt HLk.out)).trans HLk.out
            have hm0 : (0 : Int) ≤ (m : Int) := Int.natCast_nonneg _
            have hm1 : (m : Int) < (M.length : Int) := by omega
            have hm2 : decide ((m : Int) < (M.length : Int)) = true := decide_eq_true hm1
            clear hcm1
            go_wp2_with fail
            cases hq : Op.bytesLess y.toList x.toList with
            | true =>
              go_big_quiet (fail)
              go_wp2_with fail
              refine ⟨⟨m + 1, hlt2, rfl, HB2.out.trans ⟨rfl, rfl, rfl, Nat.le_refl _, fun _ _ => rfl⟩⟩, ?_⟩
              show M.length - ((m : Int) + 1).toNat < M.length - (m : Int).toNat
              omega
            | false =>
              go_big_quiet (fail)
              go_wp2_with fail
              cases hq2 : (y.toList == x.toList) with
              | true =>
                go_big_quiet (fail)
                go_wp2_with fail
                refine ⟨⟨k + 1, M, hlt, rfl, OwnL.below HO.out (HBD.out _), HM.out, by omega, HB.out.trans ((HBD.out _).mono HB.out.size)⟩, ?_⟩
                show L.length - ((k : Int) + 1).toNat < L.length - (k : Int).toNat
                omega
              | false =>
                go_big_quiet (fail)
                refine exit_name (fun w2 hw2 => ?_)
                clear hcy hcx hq hq2
                have HB3 : Hid (Below w1.heap.size w1 w2) := Lib.hid (HB2.out.trans (by rw [hw2]; exact ⟨rfl, rfl, rfl, Nat.le_refl _, fun _ _ => rfl⟩))
                have HCl : Hid (∀ j, j < M.length → w2.cell? ⟨g, j, none⟩ = (M.map Value.string)[j]?) := Lib.hid (fun j hj => by
                  have h1 := hcl j hj
                  have h2 : ∃ u, (M.map Value.string)[j]? = some u := ⟨_, List.getElem?_eq_getElem (by simpa using hj)⟩
                  obtain ⟨u, hu⟩ := h2
                  rw [hu] at h1
                  rw [hu]
                  exact (HB3.out.cell (cell_lt h1)).trans h1)
                have hgl : g < w2.heap.size := Nat.lt_of_lt_of_le hglt HB3.out.size
                have hx2 : w2.cell? ⟨pb, po + k, none⟩ = some (.string x) := (HB3.out.cell (cell_lt HLk.out)).trans HLk.out
                have HX2 := Lib.hid hx2
                have hnil : OwnL 9 1 (fun s : ByteArray => [Value.string s]) w2 w2.heap.size (.slice none 0 0) ([] : List ByteArray) := ownL_nil _ _
                obtain ⟨i0, hi, hz0, hz1, hz2⟩ := info_parts infoStr
                have HI2 := Lib.hid hz2
                have hmi0 : (0 : Int) ≤ (m : Int) := Int.natCast_nonneg _
                have hmi1 : (m : Int) ≤ (M.length : Int) := by omega
                have hmi2 : (m : Int) ≤ (cap : Int) := by omega
                clear hz2 HB2 hw2 hx2
                go_wp2_with (first | (at_builtin; refine wpList_appM _ rfl _ _ 22 rfl i0 (.string ⟨#[]⟩) 16 Tryz.underlying22 hi hz0 hz1 HI2.out rfl (by decide) w2.heap.size _ ([] : List ByteArray) rfl hnil (M.take m) ⟨g, 0, none⟩ m cap rfl ?_ ?_ ?_ ?_ ?_ (by decide) (Nat.le_refl _) ?_) | fail)
                · rw [flat1, List.length_map, List.length_take]; omega
                · intro j u hu
                  rw [flat1, List.map_take, List.getElem?_take] at hu
                  split at hu
                  · rename_i hjm
                    have hadd : (⟨g, 0, none⟩ : Addr).add j = ⟨g, j, none⟩ := by unfold Addr.add; split <;> simp_all
                    rw [hadd, HCl.out j (by omega)]
                    exact hu
                  · cases hu
                · intro u hu
                  rw [flat1] at hu
                  obtain ⟨t, _, rfl⟩ := List.mem_map.1 hu
                  rfl
                · rw [List.length_take]; omega
                · show 0 + m ≤ _; omega
                intro v1 w3 ho1 hg1 hown1
                have HO1 : Hid (OwnS w3 w2.heap.size v1 (M.take m)) := Lib.hid ho1
                have HB4 := Lib.hid ((Below.refl w2.heap.size w2).grown hg1 (Nat.le_refl _) (fun g hg => by cases hg))
                have hx3 : w3.cell? ⟨pb, po + k, none⟩ = some (.string x) := (HB4.out.cell (cell_lt HX2.out)).trans HX2.out
                clear ho1 hg1 hown1 hnil
                go_wp2_with (first | (at_builtin; refine wpList_appL _ rfl _ _ 22 rfl i0 (.string ⟨#[]⟩) 16 Tryz.underlying22 hi hz0 hz1 HI2.out rfl (by decide) w2.heap.size v1 (M.take m) rfl (OwnL.alloc HO1.out _) x rfl ⟨w3.heap.size, 0, none⟩ 1 rfl (one_str w3 _ _) ?_ ?_ (by decide) ?_ ?_) | fail)
                · intro u hu; simp at hu; subst hu; rfl
                · rw [List.length_take]; omega
                · rw [size_alloc]; have := HB4.out.size; omega
                intro v2 w4 ho2 hg2 hown2
                have hb5 := below_appU HB4.out HO1.out HB4.out.size _ hg2
                have HO2 := Lib.hid ho2
                have HB5 := Lib.hid hb5
                have HCl4 : Hid (∀ j, j < M.length → w4.cell? ⟨g, j, none⟩ = (M.map Value.string)[j]?) := Lib.hid (fun j hj => by
                  have h1 := HCl.out j hj
                  obtain ⟨u, hu⟩ : ∃ u, (M.map Value.string)[j]? = some u := ⟨_, List.getElem?_eq_getElem (by simpa using hj)⟩
                  rw [hu] at h1
                  rw [hu]
                  exact (hb5.cell (cell_lt h1)).trans h1)
                clear ho2 hg2 hown2 hx3 hb5 HCl HO1 HB4 HX2
                go_wp2_with (first | (at_builtin; refine wpList_appM _ rfl _ _ 22 rfl i0 (.string ⟨#[]⟩) 16 Tryz.underlying22 hi hz0 hz1 HI2.out rfl (by decide) w2.heap.size v2 (M.take m ++ [x]) rfl HO2.out (M.drop m) ⟨g, m, none⟩ (M.length - m) (cap - m) rfl ?_ ?_ ?_ ?_ ?_ (by decide) HB5.out.size ?_) | fail)
                · rw [flat1, List.length_map, List.length_drop]; omega
                · intro j u hu
                  rw [flat1, List.map_drop, List.getElem?_drop] at hu
                  have hjm : m + j < M.length := by
                    have := (List.getElem?_eq_some_iff.1 hu).1
                    simpa using this
                  have hadd : (⟨g, m, none⟩ : Addr).add j = ⟨g, m + j, none⟩ := by unfold Addr.add; split <;> simp_all
                  rw [hadd, HCl4.out (m + j) hjm]
                  exact hu
                · intro u hu
                  rw [flat1] at hu
                  obtain ⟨t, _, rfl⟩ := List.mem_map.1 hu
                  rfl
                · rw [List.length_drop]
                · rw [List.length_append, List.length_take]; simp; omega
                intro v3 w5 ho3 hg3 hown3
                have hb6 : Below w2.heap.size w2 w5 := HB5.out.grown hg3 HB5.out.size (fun g hg => (OwnL.lt HO2.out g hg).1)
                have hbF : Below w.heap.size w w5 := HB.out.trans ((HB3.out.trans (hb6.mono HB3.out.size)).mono HB.out.size)
                have hmem3 : ∀ t ∈ M.take m ++ x :: M.drop m, t ∈ L := by
                  intro t ht
                  rcases List.mem_append.1 ht with h | h
                  · exact HM.out t (List.mem_of_mem_take h)
                  · rcases List.mem_cons.1 h with rfl | h
                    · exact HMem.out
                    · exact HM.out t (List.mem_of_mem_drop h)
                have hlen3 : (M.take m ++ x :: M.drop m).length ≤ k + 1 := by
                  rw [List.length_append, List.length_take, List.length_cons, List.length_drop]
                  omega
                have HF := Lib.hid (⟨OwnL.base ho3 (fun g hg => by have := (OwnL.lt ho3 g hg).1; have := HB3.out.size; have := HB.out.size; omega), hmem3, hlen3, hbF⟩ : OwnS w5 w.heap.size v3 (M.take m ++ x :: M.drop m) ∧ (∀ t ∈ M.take m ++ x :: M.drop m, t ∈ L) ∧ (M.take m ++ x :: M.drop m).length ≤ k + 1 ∧ Below w.heap.size w w5)
                clear hmem3 hlen3
                clear ho3 hg3 hown3 hb6 hbF HO2 HB5 HCl4
                go_wp2_with fail
                refine ⟨⟨k + 1, _, hlt, rfl, HF.out.1, HF.out.2.1, HF.out.2.2.1, HF.out.2.2.2⟩, ?_⟩
                show L.length - ((k : Int) + 1).toNat < L.length - (k : Int).toNat
                omega
          · have hm2 : decide ((m : Int) < (M.length : Int)) = false := decide_eq_false (by omega)
            have hm3 : ¬ ((m : Int) < (M.length : Int)) := by omega
            go_wp2_with fail
            go_big_quiet (fail)
            go_wp2_with fail
            go_big_quiet (fail)
            refine exit_name (fun w2 hw2 => ?_)
            clear hm2 hm3
            have HB3 : Hid (Below w1.heap.size w1 w2) := Lib.hid (HB2.out.trans (by rw [hw2]; exact ⟨rfl, rfl, rfl, Nat.le_refl _, fun _ _ => rfl⟩))
            have HCl : Hid (∀ j, j < M.length → w2.cell? ⟨g, j, none⟩ = (M.map Value.string)[j]?) := Lib.hid (fun j hj => by
              have h1 := hcl j hj
              have h2 : ∃ u, (M.map Value.string)[j]? = some u := ⟨_, List.getElem?_eq_getElem (by simpa using hj)⟩
              obtain ⟨u, hu⟩ := h2
              rw [hu] at h1
              rw [hu]
              exact (HB3.out.cell (cell_lt h1)).trans h1)
            have hgl : g < w2.heap.size := Nat.lt_of_lt_of_le hglt HB3.out.size
            have hx2 : w2.cell? ⟨pb, po + k, none⟩ = some (.string x) := (HB3.out.cell (cell_lt HLk.out)).trans HLk.out
            have HX2 := Lib.hid hx2
            have hnil : OwnL 9 1 (fun s : ByteArray => [Value.string s]) w2 w2.heap.size (.slice none 0 0) ([] : List ByteArray) := ownL_nil _ _
            obtain ⟨i0, hi, hz0, hz1, hz2⟩ := info_parts infoStr
            have HI2 := Lib.hid hz2
            have hmi0 : (0 : Int) ≤ (m : Int) := Int.natCast_nonneg _
            have hmi1 : (m : Int) ≤ (M.length : Int) := by omega
            have hmi2 : (m : Int) ≤ (cap : Int) := by omega
            clear hz2 HB2 hw2 hx2
            go_wp2_with (first | (at_builtin; refine wpList_appM _ rfl _ _ 22 rfl i0 (.string ⟨#[]⟩) 16 Tryz.underlying22 hi hz0 hz1 HI2.out rfl (by decide) w2.heap.size _ ([] : List ByteArray) rfl hnil (M.take m) ⟨g, 0, none⟩ m cap rfl ?_ ?_ ?_ ?_ ?_ (by decide) (Nat.le_refl _) ?_) | fail)
            · rw [flat1, List.length_map, List.length_take]; omega
            · intro j u hu
              rw [flat1, List.map_take, List.getElem?_take] at hu
              split at hu
              · rename_i hjm
                have hadd : (⟨g, 0, none⟩ : Addr).add j = ⟨g, j, none⟩ := by unfold Addr.add; split <;> simp_all
                rw [hadd, HCl.out j (by omega)]
                exact hu
              · cases hu
            · intro u hu
              rw [flat1] at hu
              obtain ⟨t, _, rfl⟩ := List.mem_map.1 hu
              rfl
            · rw [List.length_take]; omega
            · show 0 + m ≤ _; omega
            intro v1 w3 ho1 hg1 hown1
            have HO1 : Hid (OwnS w3 w2.heap.size v1 (M.take m)) := Lib.hid ho1
            have HB4 := Lib.hid ((Below.refl w2.heap.size w2).grown hg1 (Nat.le_refl _) (fun g hg => by cases hg))
            have hx3 : w3.cell? ⟨pb, po + k, none⟩ = some (.string x) := (HB4.out.cell (cell_lt HX2.out)).trans HX2.out
            clear ho1 hg1 hown1 hnil
            go_wp2_with (first | (at_builtin; refine wpList_appL _ rfl _ _ 22 rfl i0 (.string ⟨#[]⟩) 16 Tryz.underlying22 hi hz0 hz1 HI2.out rfl (by decide) w2.heap.size v1 (M.take m) rfl (OwnL.alloc HO1.out _) x rfl ⟨w3.heap.size, 0, none⟩ 1 rfl (one_str w3 _ _) ?_ ?_ (by decide) ?_ ?_) | fail)
            · intro u hu; simp at hu; subst hu; rfl
            · rw [List.length_take]; omega
            · rw [size_alloc]; have := HB4.out.size; omega
            intro v2 w4 ho2 hg2 hown2
            have hb5 := below_appU HB4.out HO1.out HB4.out.size _ hg2
            have HO2 := Lib.hid ho2
            have HB5 := Lib.hid hb5
            have HCl4 : Hid (∀ j, j < M.length → w4.cell? ⟨g, j, none⟩ = (M.map Value.string)[j]?) := Lib.hid (fun j hj => by
              have h1 := HCl.out j hj
              obtain ⟨u, hu⟩ : ∃ u, (M.map Value.string)[j]? = some u := ⟨_, List.getElem?_eq_getElem (by simpa using hj)⟩
              rw [hu] at h1
              rw [hu]
              exact (hb5.cell (cell_lt h1)).trans h1)
            clear ho2 hg2 hown2 hx3 hb5 HCl HO1 HB4 HX2
            by_cases hcz : cap = m
            · subst hcz
              go_wp2_with (first | (at_builtin; refine wpList_appM _ rfl _ _ 22 rfl i0 (.string ⟨#[]⟩) 16 Tryz.underlying22 hi hz0 hz1 HI2.out rfl (by decide) w2.heap.size v2 (M.take cap ++ [x]) rfl HO2.out (M.drop cap) _ _ _ rfl ?_ ?_ ?_ ?_ ?_ (by decide) HB5.out.size ?_) | fail)
              · rw [flat1, List.length_map, List.length_drop]; omega
              · intro j u hu
                rw [flat1, List.drop_eq_nil_of_le (by omega)] at hu
                cases hu
              · intro u hu
                rw [flat1] at hu
                obtain ⟨t, _, rfl⟩ := List.mem_map.1 hu
                rfl
              · rw [List.length_drop]; omega
              · rw [List.length_append, List.length_take]; simp; omega
              intro v3 w5 ho3 hg3 hown3
              have hb6 : Below w2.heap.size w2 w5 := HB5.out.grown hg3 HB5.out.size (fun g hg => (OwnL.lt HO2.out g hg).1)
              have hbF : Below w.heap.size w w5 := HB.out.trans ((HB3.out.trans (hb6.mono HB3.out.size)).mono HB.out.size)
              have hmem3 : ∀ t ∈ M.take cap ++ x :: M.drop cap, t ∈ L := by
                intro t ht
                rcases List.mem_append.1 ht with h | h
                · exact HM.out t (List.mem_of_mem_take h)
                · rcases List.mem_cons.1 h with rfl | h
                  · exact HMem.out
                  · exact HM.out t (List.mem_of_mem_drop h)
              have hlen3 : (M.take cap ++ x :: M.drop cap).length ≤ k + 1 := by
                rw [List.length_append, List.length_take, List.length_cons, List.length_drop]
                omega
              have HF := Lib.hid (⟨OwnL.base ho3 (fun g hg => by have := (OwnL.lt ho3 g hg).1; have := HB3.out.size; have := HB.out.size; omega), hmem3, hlen3, hbF⟩ : OwnS w5 w.heap.size v3 (M.take cap ++ x :: M.drop cap) ∧ (∀ t ∈ M.take cap ++ x :: M.drop cap, t ∈ L) ∧ (M.take cap ++ x :: M.drop cap).length ≤ k + 1 ∧ Below w.heap.size w w5)
              clear hmem3 hlen3
              clear ho3 hg3 hown3 hb6 hbF HO2 HB5 HCl4
              go_wp2_with fail
              refine ⟨⟨k + 1, _, hlt, rfl, HF.out.1, HF.out.2.1, HF.out.2.2.1, HF.out.2.2.2⟩, ?_⟩
              show L.length - ((k : Int) + 1).toNat < L.length - (k : Int).toNat
              omega
            · have hcz2 : ¬ m = cap := fun h => hcz h.symm
              go_wp2_with (first | (at_builtin; refine wpList_appM _ rfl _ _ 22 rfl i0 (.string ⟨#[]⟩) 16 Tryz.underlying22 hi hz0 hz1 HI2.out rfl (by decide) w2.heap.size v2 (M.take m ++ [x]) rfl HO2.out (M.drop m) ⟨g, m, none⟩ (M.length - m) (cap - m) rfl ?_ ?_ ?_ ?_ ?_ (by decide) HB5.out.size ?_) | fail)
              · rw [flat1, List.length_map, List.length_drop]; omega
              · intro j u hu
                rw [flat1, List.drop_eq_nil_of_le (by omega)] at hu
                cases hu
              · intro u hu
                rw [flat1] at hu
                obtain ⟨t, _, rfl⟩ := List.mem_map.1 hu
                rfl
              · rw [List.length_drop]
              · rw [List.length_append, List.length_take]; simp; omega
              intro v3 w5 ho3 hg3 hown3
              have hb6 : Below w2.heap.size w2 w5 := HB5.out.grown hg3 HB5.out.size (fun g hg => (OwnL.lt HO2.out g hg).1)
              have hbF : Below w.heap.size w w5 := HB.out.trans ((HB3.out.trans (hb6.mono HB3.out.size)).mono HB.out.size)
              have hmem3 : ∀ t ∈ M.take m ++ x :: M.drop m, t ∈ L := by
                intro t ht
                rcases List.mem_append.1 ht with h | h
                · exact HM.out t (List.mem_of_mem_take h)
                · rcases List.mem_cons.1 h with rfl | h
                  · exact HMem.out
                  · exact HM.out t (List.mem_of_mem_drop h)
              have hlen3 : (M.take m ++ x :: M.drop m).length ≤ k + 1 := by
                rw [List.length_append, List.length_take, List.length_cons, List.length_drop]
                omega
              have HF := Lib.hid (⟨OwnL.base ho3 (fun g hg => by have := (OwnL.lt ho3 g hg).1; have := HB3.out.size; have := HB.out.size; omega), hmem3, hlen3, hbF⟩ : OwnS w5 w.heap.size v3 (M.take m ++ x :: M.drop m) ∧ (∀ t ∈ M.take m ++ x :: M.drop m, t ∈ L) ∧ (M.take m ++ x :: M.drop m).length ≤ k + 1 ∧ Below w.heap.size w w5)
              clear hmem3 hlen3
              clear ho3 hg3 hown3 hb6 hbF HO2 HB5 HCl4
              go_wp2_with fail
              refine ⟨⟨k + 1, _, hlt, rfl, HF.out.1, HF.out.2.1, HF.out.2.2.1, HF.out.2.2.2⟩, ?_⟩
              show L.length - ((k : Int) + 1).toNat < L.length - (k : Int).toNat
              omega
    · obtain rfl : k = L.length := by omega
      have HR : Hid (OwnS w1 w.heap.size u3 M ∧ (∀ t ∈ M, t ∈ L) ∧ M.length ≤ L.length ∧ Below w.heap.size w w1) := Lib.hid ⟨HO.out, HM.out, hml, HB.out⟩
      go_wp2_with fail
      go_ret
      exact ⟨_, _, rfl, HR.out⟩
end Go.Proofs.YtmejjphliaiamaaGreatDoor
