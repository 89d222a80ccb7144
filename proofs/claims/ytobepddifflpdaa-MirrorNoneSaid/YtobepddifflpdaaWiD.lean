import Derived.Test.YtobepddifflpdaaWiC
import Derived.Test.YtobepddifflpdaaWiA
set_option linter.unusedVariables false
namespace Go.Proofs.Ytobepddifflpdaa
open Go Go.RowKit Go.Lib

set_option maxRecDepth 100000 in
set_option maxHeartbeats 1000000 in
theorem reflayreply_any (id e z : Int) (d : ByteArray) (w : World) (hid : -9223372036854775808 ≤ id ∧ id ≤ 9223372036854775807) (he : -9223372036854775808 ≤ e ∧ e ≤ 9223372036854775807) (hz : -9223372036854775808 ≤ z ∧ z ≤ 9223372036854775807) (hd : d.size ≤ 9223372036854775807) :
    Calls Try.prog 21 #[.agg #[.int .i64 id, .int .i64 e, .int .i64 z, .string d]] w fun en w' => en = .returned (.tuple #[.string (repO id e z d).1, .int .i64 (repO id e z d).2]) ∧ Below w.heap.size w w' := by
  have hsz := rep4_size id e z
  have hfair : (unfair e z d → repO id e z d = (⟨#[]⟩, 1)) ∧ (¬ unfair e z d → repO id e z d = wOut (rText (rep4 id e z) d)) := ⟨fun h => if_pos h, fun h => if_neg h⟩
  generalize repO id e z d = R at hfair ⊢
  have HF := Lib.hid hfair
  clear hfair
  go_enter Try.func21, Try.ntmps21
  have P0 : RepAt (w.alloc (.cells #[.int .i64 id, .int .i64 e, .int .i64 z, .string d] 30)) w.heap.size id e z d := blk_new _ _
  have g0 := wg_new 75 (w := w.alloc (.cells #[.int .i64 id, .int .i64 e, .int .i64 z, .string d] 30)) (L := [(w.heap.size, #[.int .i64 id, .int .i64 e, .int .i64 z, .string d], 30)]) ((Below.refl w.heap.size w).alloc (Nat.le_refl _) _) (by rw [size_alloc]; omega) (fun x hx => by obtain rfl := List.mem_singleton.1 hx; exact ⟨P0, show 30 ≠ 5 by decide⟩)
  rw [size_alloc] at g0
  have G1 := Lib.hid g0
  clear g0 P0
  go_wp2_with fail
  generalize (w.alloc (.cells #[.int .i64 id, .int .i64 e, .int .i64 z, .string d] 30)).alloc (.cells #[.slice none 0 0, .bool false] 75) = w1 at G1 ⊢
  obtain ⟨wb, hwb⟩ : ∃ wb, wb = w.heap.size + 1 := ⟨_, rfl⟩
  rw [← hwb] at G1 ⊢
  have HWB := Lib.hid hwb
  clear hwb
  obtain ⟨v1, hv⟩ := G1.out.ex
  have HV := Lib.hid hv
  clear hv
  refine (rnum_any w.heap.size wb v1 _ 2 1 _ (by decide) (by decide) (by have h0 : ((⟨#[]⟩ : ByteArray), false).1.size = 0 := rfl; omega) HV.out).mono ?_
  rintro e' w2 ⟨rfl, hk⟩
  have G2 : Hid (WG 75 w.heap.size w w2 wb [(w.heap.size, #[.int .i64 id, .int .i64 e, .int .i64 z, .string d], 30)] (wNum (⟨#[]⟩, false) 2 1)) := Lib.hid (G1.out.step HV.out hk)
  have P2 : RepAt w2 w.heap.size id e z d := (G2.out.par _ (List.mem_singleton.2 rfl)).1
  have c0 := P2.cells.1.1
  clear hk HV G1 P2
  go_wp2_with fail
  clear c0
  obtain ⟨v2, hv⟩ := G2.out.ex
  have HV := Lib.hid hv
  clear hv
  refine (rnum_any w.heap.size wb v2 _ id 2 _ (by decide) (hid) (by have := wNum_size ((⟨#[]⟩, false)) 2 1; have h0 : ((⟨#[]⟩ : ByteArray), false).1.size = 0 := rfl; omega) HV.out).mono ?_
  rintro e' w3 ⟨rfl, hk⟩
  have G3 : Hid (WG 75 w.heap.size w w3 wb [(w.heap.size, #[.int .i64 id, .int .i64 e, .int .i64 z, .string d], 30)] (wNum (wNum (⟨#[]⟩, false) 2 1) id 2)) := Lib.hid (G2.out.step HV.out hk)
  have P3 : RepAt w3 w.heap.size id e z d := (G3.out.par _ (List.mem_singleton.2 rfl)).1
  have c0 := P3.cells.1.2.1
  clear hk HV G2 P3
  go_wp2_with fail
  clear c0
  obtain ⟨v3, hv⟩ := G3.out.ex
  have HV := Lib.hid hv
  clear hv
  refine (rnum_any w.heap.size wb v3 _ e 1 _ (by decide) (he) (by have := wNum_size ((⟨#[]⟩, false)) 2 1; have := wNum_size (wNum (⟨#[]⟩, false) 2 1) id 2; have h0 : ((⟨#[]⟩ : ByteArray), false).1.size = 0 := rfl; omega) HV.out).mono ?_
  rintro e' w4 ⟨rfl, hk⟩
  have G4 : Hid (WG 75 w.heap.size w w4 wb [(w.heap.size, #[.int .i64 id, .int .i64 e, .int .i64 z, .string d], 30)] (wNum (wNum (wNum (⟨#[]⟩, false) 2 1) id 2) e 1)) := Lib.hid (G3.out.step HV.out hk)
  have P4 : RepAt w4 w.heap.size id e z d := (G4.out.par _ (List.mem_singleton.2 rfl)).1
  have c0 := P4.cells.1.2.2.1
  clear hk HV G3 P4
  go_wp2_with fail
  clear c0
  obtain ⟨v4, hv⟩ := G4.out.ex
  have HV := Lib.hid hv
  clear hv
  refine (rnum_any w.heap.size wb v4 _ z 4 _ (by decide) (hz) (by have := wNum_size ((⟨#[]⟩, false)) 2 1; have := wNum_size (wNum (⟨#[]⟩, false) 2 1) id 2; have := wNum_size (wNum (wNum (⟨#[]⟩, false) 2 1) id 2) e 1; have h0 : ((⟨#[]⟩ : ByteArray), false).1.size = 0 := rfl; omega) HV.out).mono ?_
  rintro e' w5 ⟨rfl, hk⟩
  have G5 : Hid (WG 75 w.heap.size w w5 wb [(w.heap.size, #[.int .i64 id, .int .i64 e, .int .i64 z, .string d], 30)] (wNum (wNum (wNum (wNum (⟨#[]⟩, false) 2 1) id 2) e 1) z 4)) := Lib.hid (G4.out.step HV.out hk)
  have P5 : RepAt w5 w.heap.size id e z d := (G5.out.par _ (List.mem_singleton.2 rfl)).1
  have c0 := P5.cells.1.2.2.2
  clear hk HV G4 P5
  go_wp2_with fail
  clear c0
  obtain ⟨v5, hv⟩ := G5.out.ex
  have HV := Lib.hid hv
  clear hv
  refine (rtext_any w.heap.size wb v5 _ d _ (Nat.le_trans (rep4_size id e z) (by decide)) hd HV.out).mono ?_
  rintro e' w6 ⟨rfl, hk⟩
  have G6 : Hid (WG 75 w.heap.size w w6 wb [(w.heap.size, #[.int .i64 id, .int .i64 e, .int .i64 z, .string d], 30)] (rText (rep4 id e z) d)) := Lib.hid (G5.out.step HV.out hk)
  have P6 : RepAt w6 w.heap.size id e z d := (G6.out.par _ (List.mem_singleton.2 rfl)).1
  obtain ⟨⟨c0, c1, c2, c3⟩, -⟩ := P6.cells
  clear hk HV G5 P6 hsz
  by_cases g1 : e ≠ 0
  case' neg =>
    have he0 : e = 0 := by omega
    have hR := HF.out.2 (fun h => g1 h.1)
    have HR := Lib.hid hR
    clear hR g1
  case' pos =>
    by_cases g2 : z ≠ 0
    case' pos =>
      have hR := HF.out.1 ⟨g1, .inl g2⟩
      have HR := Lib.hid hR
      have hb1 : (e == 0) = false := beq_eq_false_iff_ne.2 g1
      have hb2 : (z == 0) = false := beq_eq_false_iff_ne.2 g2
      clear hR
    case' neg =>
      have hz0 : z = 0 := by omega
      have hb1 : (e == 0) = false := beq_eq_false_iff_ne.2 g1
      by_cases g3 : d.size ≠ 0
      case' pos =>
        have hR := HF.out.1 ⟨g1, .inr g3⟩
        have HR := Lib.hid hR
        have hb3 : d.toList.isEmpty = false := by rw [toList_empty]; exact decide_eq_false g3
        clear hR g2 g3
      case' neg =>
        have hR := HF.out.2 (fun h => h.2.elim g2 g3)
        have HR := Lib.hid hR
        have hb3 : d.toList.isEmpty = true := by rw [toList_empty]; exact decide_eq_true (by omega)
        clear hR g2 g3
  all_goals
    go_wp2_with fail
    first
    | (go_ret2
       try subst hz0
       rw [HR.out]
       exact ⟨rfl, G6.out.below⟩)
    | (obtain ⟨v6, hv⟩ := G6.out.ex
       refine (rbytes_any w.heap.size wb v6 _ _ hv).mono ?_
       rintro e' w7 ⟨rfl, rfl⟩
       clear hv
       go_wp2_with fail
       go_ret2
       try subst he0
       try subst hz0
       rw [HR.out]
       exact ⟨rfl, G6.out.below⟩)
end Go.Proofs.Ytobepddifflpdaa
