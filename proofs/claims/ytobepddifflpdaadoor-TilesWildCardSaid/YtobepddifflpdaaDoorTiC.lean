import Derived.Test.YtobepddifflpdaaDoorTiB
set_option linter.unusedVariables false
namespace Go.Proofs.YtobepddifflpdaaDoor
open Go Go.RowKit Go.Lib Go.Sort Go.Maps Go.WideMaps

theorem flat1 (l : List ByteArray) : l.flatMap (fun s => [Value.string s]) = l.map Value.string := by
  induction l with
  | nil => rfl
  | cons x l ih => simp [List.flatMap_cons, ih]
theorem cells_of_ownS {w : World} {base : Nat} {v : Value} {l : List ByteArray} (h : OwnS w base v l) : ∃ ao cap, v = .slice ao l.length cap ∧ l.length ≤ cap ∧ cap ≤ 9223372036854775807 ∧ ∀ (k : Nat) (t : ByteArray), l[k]? = some t → ∃ g, ao = some ⟨g, 0, none⟩ ∧ w.cell? ⟨g, k, none⟩ = some (.string t) := by
  obtain ⟨ao, cap, hv, h1, h2, h3⟩ := OwnL.form h
  refine ⟨ao, cap, hv, h1, h2, fun k t ht => ?_⟩
  have hk : k < l.length := (List.getElem?_eq_some_iff.1 ht).1
  obtain ⟨g, rfl, -, -, hc⟩ := h3 (by omega)
  exact ⟨g, rfl, by rw [hc k (by omega), flat1, List.getElem?_map, ht]; rfl⟩

def PfRel (l : List ByteArray) (w : World) (p i : Value) (wr : World) : Prop :=
  ∃ j : Nat, j ≤ l.length ∧ i = .int .i64 ((j : Int) - 1) ∧ OwnS wr w.heap.size p (l.drop j).reverse ∧ Below w.heap.size w wr

set_option maxRecDepth 100000 in
set_option maxHeartbeats 1000000 in
theorem proof_ok (rb base : Nat) (v : Value) (l : List ByteArray) (w : World) (c : Array Value) (hc2 : w.cell? ⟨rb, 2, none⟩ = some (.int .i64 0)) (ho : OwnS w base v l) (hlen : l.length ≤ 100000) :
    Calls Tryd.prog 52 #[.pointer (some ⟨rb, 0, none⟩), v] w fun en w' => ∃ p, en = .returned (.tuple #[p, .int .i64 0]) ∧ OwnS w' w.heap.size p l.reverse ∧ Below w.heap.size w w' := by
  obtain ⟨i0, hi, hz0, hz1, hz2⟩ := info_parts infoStr
  have HI2 := Lib.hid hz2
  obtain ⟨ao, cap, rfl, hcap, hcap2, hcell⟩ := cells_of_ownS ho
  have HC := Lib.hid hcell
  clear hz2 ho hcell
  go_enter Tryd.func52, Tryd.ntmps52
  go_wp2_with fail
  go_loopw [6, 7] (fun p i wr => PfRel l w p i wr) (fun _ i _ => ((RowKit.intOf i) + 1).toNat)
  case atStart => exact ⟨l.length, Nat.le_refl _, rfl, by rw [List.drop_length]; exact ownL_nil _ _, Below.refl _ _⟩
  case round =>
    obtain ⟨j, hj, rfl, hown, hbel⟩ := hrel
    have HO := Lib.hid hown
    have HB := Lib.hid hbel
    clear hown hbel
    by_cases hlt : 0 < j
    · obtain ⟨k, rfl⟩ : ∃ k, j = k + 1 := ⟨j - 1, by omega⟩
      obtain ⟨t, ht⟩ : ∃ t, l[k]? = some t := ⟨_, List.getElem?_eq_getElem (by omega)⟩
      obtain ⟨g, rfl, hq⟩ := HC.out k t ht
      have hq2 := (HB.out.cell (p := ⟨g, k, none⟩) (cell_lt hq)).trans hq
      have e1 : ((k + 1 : Nat) : Int) - 1 = (k : Int) := by omega
      have HTt := Lib.hid ht
      rw [e1]
      clear hq ht e1
      go_wp2_with (first | (at_builtin; refine wpList_appL _ rfl _ _ 29 rfl i0 (.string ⟨#[]⟩) 16 Tryd.underlying29 hi hz0 hz1 HI2.out rfl (by decide) w.heap.size _ (l.drop (k + 1)).reverse rfl (OwnL.alloc HO.out _) t rfl ⟨wr.heap.size, 0, none⟩ 1 rfl (one_str wr _ _) ?_ ?_ (by decide) ?_ ?_) | fail)
      · intro u hu; simp at hu; subst hu; rfl
      · rw [List.length_reverse, List.length_drop]; omega
      · rw [size_alloc]; have := HB.out.size; omega
      intro v4 w4 ho4 hg4 _
      have hB4 : Below w.heap.size w w4 := (HB.out.alloc HB.out.size _).grown hg4 (by rw [size_alloc]; have := HB.out.size; omega) (fun g hg => (OwnL.lt HO.out g hg).1)
      have HO4 := Lib.hid ho4
      have HB4 := Lib.hid hB4
      clear ho4 hg4 hB4
      go_wp2_with fail
      refine ⟨⟨k, by omega, rfl, ?_, HB4.out⟩, ?_⟩
      · have := HO4.out
        have hd : l.drop k = t :: l.drop (k + 1) := by
          have hkl := (List.getElem?_eq_some_iff.1 HTt.out)
          obtain ⟨h1, h2⟩ := hkl
          rw [List.drop_eq_getElem_cons h1, h2]
        rw [hd, List.reverse_cons]
        exact this
      · show (((k : Int) - 1) + 1).toNat < ((k : Int) + 1).toNat
        omega
    · obtain rfl : j = 0 := by omega
      have hO := HO.out
      rw [List.drop_zero] at hO
      have HO1 := Lib.hid hO
      clear hO HO
      go_wp2_with fail
      go_ret2
      exact ⟨_, rfl, HO1.out, HB.out⟩

theorem proof_err (rb : Nat) (v : Value) (w : World) (e : Int) (he : e ≠ 0) (hc2 : w.cell? ⟨rb, 2, none⟩ = some (.int .i64 e)) :
    Calls Tryd.prog 52 #[.pointer (some ⟨rb, 0, none⟩), v] w fun en w' => en = .returned (.tuple #[.slice none 0 0, .int .i64 e]) ∧ Below w.heap.size w w' := by
  have c2d : w.drew.cell? ⟨rb, 2, none⟩ = some (.int .i64 e) := hc2
  go_enter Tryd.func52, Tryd.ntmps52
  go_wp2_with fail
  go_region
  all_goals
    go_wp2_with fail
    go_ret2
    exact ⟨rfl, (Below.refl _ _).drew⟩
end Go.Proofs.YtobepddifflpdaaDoor
