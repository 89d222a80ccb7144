import Derived.Test.YtmejjphliaiamaaGreatDoorNoS
set_option linter.unusedVariables false
set_option linter.unusedSimpArgs false
namespace Go.Proofs.YtmejjphliaiamaaGreatDoor
open Go Go.RowKit Go.Lib

/-! ### the document's good notes and their bytes -/
def neB (x : ByteArray) : Bool := !decide (x.size = 0)
def sigGd (x : SigT) : Bool := !sigBad x
theorem good_eq {t : ByteArray} {L : List SigT} {done : List ByteArray} {fl : Bool} (h1 : done.map (·.data.toList) = (cutsL t.data.toList).dropLast) (h2 : fl = true ↔ (cutsL t.data.toList).getLast? = some []) :
    ((((fl && done.all neB) && L.all sigGd) && decide (0 < done.length)) && decide (L.length ≤ 16)) = noteG t L := by
  rw [Bool.eq_iff_iff, noteG_iff]
  simp only [Bool.and_eq_true, decide_eq_true_eq, List.all_eq_true]
  unfold TxtG
  rw [h2, ← h1]
  have e1 : (∀ x ∈ done, neB x = true) ↔ ∀ d ∈ done.map (·.data.toList), d ≠ [] := by
    simp only [List.mem_map, forall_exists_index, and_imp, forall_apply_eq_imp_iff₂]
    refine forall_congr' fun x => forall_congr' fun _ => ?_
    unfold neB
    have e : x.data.toList.length = x.size := Array.length_toList
    simp only [Bool.not_eq_true', decide_eq_false_iff_not, ne_eq, ← List.length_eq_zero_iff, e]
  have e2 : 0 < done.length ↔ done.map (·.data.toList) ≠ [] := by
    rw [ne_eq, List.map_eq_nil_iff, ← List.length_eq_zero_iff]; omega
  have e3 : (∀ x ∈ L, sigGd x = true) ↔ ∀ x ∈ L, sigBad x = false := by
    refine forall_congr' fun x => forall_congr' fun _ => ?_
    unfold sigGd
    simp
  rw [e1, e2, e3]
  constructor
  · rintro ⟨⟨⟨⟨a, b⟩, c⟩, d⟩, e⟩; exact ⟨e, ⟨a, d, b⟩, c⟩
  · rintro ⟨e, ⟨a, d, b⟩, c⟩; exact ⟨⟨⟨⟨a, b⟩, c⟩, d⟩, e⟩
theorem all_take {α : Type} (p : α → Bool) (l : List α) (k : Nat) (h : k < l.length) : (l.take (k + 1)).all p = ((l.take k).all p && p l[k]) := by
  rw [List.take_succ_eq_append_getElem h, List.all_append]
  simp
def G1Rel (fl : Bool) (done : List ByteArray) (ok i : Value) : Prop := ∃ k : Nat, k ≤ done.length ∧ i = .int .i64 k ∧ ok = .bool (fl && (done.take k).all neB)
def G2Rel (o1 : Bool) (L : List SigT) (ok i : Value) : Prop := ∃ k : Nat, k ≤ L.length ∧ i = .int .i64 k ∧ ok = .bool (o1 && (L.take k).all sigGd)
theorem flatS : ∀ r : List ByteArray, r.flatMap (fun s => [Value.string s]) = r.map Value.string
  | [] => rfl
  | x :: r => by rw [List.flatMap_cons, flatS r]; rfl
theorem cutsL_len : ∀ l : List UInt8, (cutsL l).length ≤ l.length + 1
  | [] => by simp [cutsL]
  | c :: r => by
    obtain ⟨q, Q, hq⟩ := cutsL_head r
    have h := cutsL_len r
    by_cases hc : c = 10
    · subst hc; rw [cutsL_nl, List.length_cons, List.length_cons]; omega
    · rw [cutsL_step hc hq]
      rw [hq] at h
      rw [List.length_cons] at h ⊢
      rw [List.length_cons]
      omega
theorem OwnS.cell {w : World} {base : Nat} {v : Value} {l : List ByteArray} (h : OwnS w base v l) : ∃ ao cap, v = .slice ao l.length cap ∧ ∀ i (hi : i < l.length), ∃ g, ao = some ⟨g, 0, none⟩ ∧ w.cell? ⟨g, i, none⟩ = some (.string l[i]) := by
  obtain ⟨ao, cap, hv, -, -, h2⟩ := OwnL.form h
  refine ⟨ao, cap, hv, fun i hi => ?_⟩
  obtain ⟨g, hg, -, -, hc⟩ := h2 (by omega)
  refine ⟨g, hg, ?_⟩
  rw [hc i (by omega)]
  rw [flatS, List.getElem?_map, List.getElem?_eq_getElem hi]
  rfl

set_option maxRecDepth 100000 in
set_option maxHeartbeats 2000000 in
theorem rgood_any (t : ByteArray) (ad : Option Addr) (L : List SigT) (c : Nat) (w : World) (ht : t.size ≤ 100000000) (hn : L.length ≤ 100000000) (hL : SigsM w ad L) :
    Calls Tryz.prog 85 #[.agg #[.string t, .slice ad L.length c]] w fun e w' => e = .returned (.bool (noteG t L)) ∧ Below w.heap.size w w' := by
  have HL := Lib.hid hL
  have HLn := Lib.hid (fun W => lines_any t W ht)
  clear hL
  go_enter Tryz.func85, Tryz.ntmps85
  go_wp2_with fail
  refine (HLn.out _).mono ?_
  rintro e w1 ⟨v, done, fl, rfl, hO, hd, hfl, hb⟩
  have hN : NtAt w1 w.heap.size t (.slice ad L.length c) := blk_later (blk_new _ _) hb
  have hK : Below w.heap.size w w1 := ((Below.refl w.heap.size w).alloc (Nat.le_refl _) _).trans (hb.mono (by rw [size_alloc]; omega))
  have HS := Lib.hid (HL.out.below hK)
  have HG := Lib.hid (good_eq (L := L) hd hfl)
  have HK := Lib.hid hK
  obtain ⟨ao, cap, rfl, hcell⟩ := OwnS.cell hO
  have HC := Lib.hid hcell
  have hdn : done.length ≤ 100000000 := by
    have := congrArg List.length hd
    rw [List.length_map, List.length_dropLast] at this
    have h3 := cutsL_len t.data.toList
    have e : t.data.toList.length = t.size := Array.length_toList
    omega
  have n1 := cell_of_blk hN 1 (v := .slice ad L.length c) rfl
  clear hb hN hK hd hfl hO hcell HL HLn
  go_wp2_with fail
  go_loop [4, 5] (fun ok i => G1Rel fl done ok i) (fun _ i => done.length - (intOf i).toNat)
  case atStart => exact ⟨0, Nat.zero_le _, rfl, by simp⟩
  case round =>
    obtain ⟨k, hk, rfl, rfl⟩ := hrel
    by_cases hlt : k < done.length
    · obtain ⟨g, rfl, hc⟩ := HC.out k hlt
      have hat := all_take neB done k hlt
      generalize done[k] = x at hc hat
      obtain ⟨ok, hok⟩ : ∃ ok, ok = (fl && (done.take k).all neB) := ⟨_, rfl⟩
      have hok2 : (fl && (done.take (k + 1)).all neB) = (ok && neB x) := by rw [hat, hok, Bool.and_assoc]
      rw [← hok]
      have HOk := Lib.hid hok2
      clear hat hok hok2
      have hk0 : (0 : Int) ≤ (k : Int) := Int.natCast_nonneg _
      have hk1 : (k : Int) < (done.length : Int) := by omega
      cases ok with
      | false =>
        go_wp2_with fail
        refine ⟨⟨k + 1, hlt, rfl, by rw [HOk.out]; rfl⟩, ?_⟩
        show done.length - ((k : Int) + 1).toNat < done.length - (k : Int).toNat
        omega
      | true =>
        by_cases hx : x.size = 0
        · have e1 : (x.toList == ByteArray.toList ⟨#[]⟩) = true := by rw [(size_zero_iff x).1 hx, (size_zero_iff ⟨#[]⟩).1 rfl]; rfl
          have e2 : x.toList.isEmpty = true := by rw [(size_zero_iff x).1 hx]; rfl
          have e3 : neB x = false := by unfold neB; rw [decide_eq_true hx]; rfl
          go_wp2_with fail
          refine ⟨⟨k + 1, hlt, rfl, by rw [HOk.out, e3]; rfl⟩, ?_⟩
          show done.length - ((k : Int) + 1).toNat < done.length - (k : Int).toNat
          omega
        · have e2 : x.toList.isEmpty = false := by cases hl : x.toList with | nil => exact absurd ((size_zero_iff x).2 hl) hx | cons a b => rfl
          have e3 : neB x = true := by unfold neB; rw [decide_eq_false hx]; rfl
          go_wp2_with fail
          refine ⟨⟨k + 1, hlt, rfl, by rw [HOk.out, e3]; rfl⟩, ?_⟩
          show done.length - ((k : Int) + 1).toNat < done.length - (k : Int).toNat
          omega
    · have hkn : k = done.length := by omega
      subst hkn
      rw [List.take_length]
      generalize (fl && done.all neB) = o1 at HG
      go_wp2_with fail
      go_loop [4, 6] (fun ok i => G2Rel o1 L ok i) (fun _ i => L.length - (intOf i).toNat)
      case atStart => exact ⟨0, Nat.zero_le _, rfl, by simp⟩
      case round =>
        obtain ⟨k, hk, rfl, rfl⟩ := hrel
        by_cases hlt : k < L.length
        · obtain ⟨pb, po, rfl, s0, s1⟩ := HS.out k L[k] (List.getElem?_eq_getElem hlt)
          have hat := all_take sigGd L k hlt
          generalize L[k] = x at s0 s1 hat
          obtain ⟨ok, hok⟩ : ∃ ok, ok = (o1 && (L.take k).all sigGd) := ⟨_, rfl⟩
          have hok2 : (o1 && (L.take (k + 1)).all sigGd) = (ok && sigGd x) := by rw [hat, hok, Bool.and_assoc]
          rw [← hok]
          have HOk := Lib.hid hok2
          clear hat hok hok2
          have hk0 : (0 : Int) ≤ (k : Int) := Int.natCast_nonneg _
          have hk1 : (k : Int) < (L.length : Int) := by omega
          cases ok with
          | false =>
            go_wp2_with fail
            refine ⟨⟨k + 1, hlt, rfl, by rw [HOk.out]; rfl⟩, ?_⟩
            show L.length - ((k : Int) + 1).toNat < L.length - (k : Int).toNat
            omega
          | true =>
            have hsg : sigGd x = (decide (x.1.size = 32) && (decide (1 ≤ x.2.size) && decide (x.2.size ≤ 1024))) := by
              unfold sigGd sigBad
              rw [Bool.eq_iff_iff]
              simp only [Bool.not_eq_true', Bool.or_eq_false_iff, Bool.not_eq_false', decide_eq_true_eq, decide_eq_false_iff_not, Bool.and_eq_true]
              omega
            have HSg := Lib.hid hsg
            clear hsg
            by_cases h1 : (x.1.size : Int) = 32
            · have b1 : ((x.1.size : Int) == 32) = true := beq_iff_eq.2 h1
              have d1 : decide (x.1.size = 32) = true := decide_eq_true (by omega)
              by_cases h2 : (1 : Int) ≤ (x.2.size : Int)
              · have d2 : decide (1 ≤ x.2.size) = true := decide_eq_true (by omega)
                by_cases h3 : (x.2.size : Int) ≤ 1024
                · have e3 : sigGd x = true := by rw [HSg.out, d1, d2, decide_eq_true (show x.2.size ≤ 1024 by omega)]; rfl
                  have HE := Lib.hid (HOk.out.trans (by rw [e3]; rfl) : (o1 && (L.take (k + 1)).all sigGd) = true)
                  clear d1 d2 e3
                  go_wp2_with fail
                  refine ⟨⟨k + 1, hlt, rfl, by rw [HE.out]⟩, ?_⟩
                  show L.length - ((k : Int) + 1).toNat < L.length - (k : Int).toNat
                  omega
                · have e3 : sigGd x = false := by rw [HSg.out, d1, d2, decide_eq_false (show ¬ x.2.size ≤ 1024 by omega)]; rfl
                  have HE := Lib.hid (HOk.out.trans (by rw [e3]; rfl) : (o1 && (L.take (k + 1)).all sigGd) = false)
                  clear d1 d2 e3
                  go_wp2_with fail
                  refine ⟨⟨k + 1, hlt, rfl, by rw [HE.out]⟩, ?_⟩
                  show L.length - ((k : Int) + 1).toNat < L.length - (k : Int).toNat
                  omega
              · have e3 : sigGd x = false := by rw [HSg.out, d1, decide_eq_false (show ¬ 1 ≤ x.2.size by omega)]; rfl
                have HE := Lib.hid (HOk.out.trans (by rw [e3]; rfl) : (o1 && (L.take (k + 1)).all sigGd) = false)
                clear d1 e3
                go_wp2_with fail
                refine ⟨⟨k + 1, hlt, rfl, by rw [HE.out]⟩, ?_⟩
                show L.length - ((k : Int) + 1).toNat < L.length - (k : Int).toNat
                omega
            · have b1 : ((x.1.size : Int) == 32) = false := beq_eq_false_iff_ne.2 h1
              have e3 : sigGd x = false := by rw [HSg.out, decide_eq_false (show ¬ x.1.size = 32 by omega)]; rfl
              have HE := Lib.hid (HOk.out.trans (by rw [e3]; rfl) : (o1 && (L.take (k + 1)).all sigGd) = false)
              clear e3
              go_wp2_with fail
              refine ⟨⟨k + 1, hlt, rfl, by rw [HE.out]⟩, ?_⟩
              show L.length - ((k : Int) + 1).toNat < L.length - (k : Int).toNat
              omega
        · have hkn : k = L.length := by omega
          subst hkn
          rw [List.take_length]
          generalize (o1 && L.all sigGd) = o2 at HG
          cases o2 with
          | false =>
            have HE := Lib.hid HG.out.symm
            go_wp2_with fail
            go_ret
            rw [HE.out]
            exact ⟨rfl, HK.out⟩
          | true =>
            by_cases h1 : (0 : Int) < (done.length : Int)
            · have d1 : decide (0 < done.length) = true := decide_eq_true (by omega)
              by_cases h2 : (L.length : Int) ≤ 16
              · have HE := Lib.hid (HG.out.symm.trans (by rw [d1, decide_eq_true (show L.length ≤ 16 by omega)]; rfl) : noteG t L = true)
                clear d1
                go_wp2_with fail
                go_ret
                rw [HE.out]
                exact ⟨rfl, HK.out⟩
              · have HE := Lib.hid (HG.out.symm.trans (by rw [d1, decide_eq_false (show ¬ L.length ≤ 16 by omega)]; rfl) : noteG t L = false)
                clear d1
                go_wp2_with fail
                go_ret
                rw [HE.out]
                exact ⟨rfl, HK.out⟩
            · have HE := Lib.hid (HG.out.symm.trans (by rw [decide_eq_false (show ¬ 0 < done.length by omega)]; rfl) : noteG t L = false)
              have hd0 : (done.length : Int) = 0 := by omega
              go_wp2_with fail
              go_ret
              rw [HE.out]
              exact ⟨rfl, HK.out⟩
end Go.Proofs.YtmejjphliaiamaaGreatDoor
