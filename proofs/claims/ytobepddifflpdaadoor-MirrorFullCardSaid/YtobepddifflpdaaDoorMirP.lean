import Derived.Test.YtobepddifflpdaaDoorMirF
import Derived.Test.YtobepddifflpdaaDoorKeysL
set_option linter.unusedVariables false
namespace Go.Proofs.YtobepddifflpdaaDoor
open Go Go.RowKit Go.Maps Go.Sort Go.Shelf Go.Proofs

/-- slices.Sort's two contracts at this dump, at the fence that asks nothing. -/
theorem keys_sorts (m : Nat) : AnyZ.SortsIn Tryd.prog Tryd.sorted60_ren Fence.wide m :=
  ⟨fun blk off cap ss W hH hblk hsz => callsIn_wide.2 (AnyM.slices_Sort_string Tryd.sort78 blk off cap ss W hH hblk hsz),
   fun p cap W => callsIn_wide.2 (AnyM.slices_Sort_string_none Tryd.sort78 p cap W)⟩

/-- laid off the shelf. -/
theorem keys_any (mb : Option Nat) (W : World) : CallsIn Fence.wide 5 Tryd.prog 61 #[.map mb] W fun e w' => e = .returned (.func (.func 79) #[] #[.pointer (some ⟨W.heap.size, 0, none⟩)]) ∧ w' = W.alloc (.cells #[.map mb] 58) :=
  AnyZ.keys_in Tryd.keys61 Fence.wide 5 trivial rfl mb W

set_option maxHeartbeats 1000000 in
/-- laid off the shelf. -/
theorem keys_sorted {H : Type} (b nn : Nat) (D0 : DataW H) (R : Value → Option (DataW H × List MemPlace)) (w : World) (hown : w.ownsMap Tryd.prog 9 R b nn D0) (hmax : Maps.size D0 ≤ maxLen) (hbytes : Maps.size D0 * 16 ≤ 140737488355328) :
    CallsIn Fence.wide 5 Tryd.prog 60 #[.func (.func 79) #[] #[.pointer (some ⟨w.heap.size, 0, none⟩)]] (w.alloc (.cells #[.map (some b)] 58)) fun e w' => ∃ (v : Value) (ss : List (List UInt8)), e = .returned v ∧ ss.Perm (strKeys D0) ∧
      w'.ownsRow (w.alloc (.cells #[.map (some b)] 58)).heap.size 9 1 v ss.length ((ss.mergeSort (fun x y => decide (x ≤ y))).map encStr) ∧ (v = .slice none 0 0 ↔ ss = []) ∧ Below (w.alloc (.cells #[.map (some b)] 58)).heap.size (w.alloc (.cells #[.map (some b)] 58)) w' := by
  have hbl := hown.lt
  have hseq : SeqGives Fence.wide 2 Tryd.prog 79 #[.pointer (some ⟨w.heap.size, 0, none⟩)] encStr (fun ss => ss.Perm (strKeys D0)) (Maps.size D0) (w.alloc (.cells #[.map (some b)] 58)) :=
    AnyZ.keys_gives (ρ := Tryd.keys61_ren) { Tryd.keys61 with } Fence.wide _ trivial rfl (by omega) w.heap.size b nn D0 _ (by simp) (by simp) (by
      obtain ⟨es, clock, hb, Ft, hs, hD⟩ := hown
      exact ⟨es, clock, (Below.heap_alloc _ _ b hbl).trans hb, Ft, hs, hD⟩)
  exact AnyZ.sorted_in Tryd.sorted60 Fence.wide 5 trivial trivial trivial trivial rfl (by omega) (keys_sorts _) (enters_of Tryd.func78 (by kernel_rfl) rfl) 79 #[.pointer (some ⟨w.heap.size, 0, none⟩)] trivial (enters_of Tryd.func79 (by kernel_rfl) rfl) _ _ hmax hbytes _ hseq

set_option maxHeartbeats 1000000 in
/-- laid off the shelf. -/
theorem keys_sorted_nil (w : World) :
    CallsIn Fence.wide 5 Tryd.prog 60 #[.func (.func 79) #[] #[.pointer (some ⟨w.heap.size, 0, none⟩)]] (w.alloc (.cells #[.map none] 58)) fun e w' => ∃ (v : Value) (ss : List (List UInt8)), e = .returned v ∧ ss = [] ∧
      w'.ownsRow (w.alloc (.cells #[.map none] 58)).heap.size 9 1 v ss.length ((ss.mergeSort (fun x y => decide (x ≤ y))).map encStr) ∧ (v = .slice none 0 0 ↔ ss = []) ∧ Below (w.alloc (.cells #[.map none] 58)).heap.size (w.alloc (.cells #[.map none] 58)) w' := by
  have hseq : SeqGives Fence.wide 2 Tryd.prog 79 #[.pointer (some ⟨w.heap.size, 0, none⟩)] encStr (fun ss : List (List UInt8) => ss = []) 0 (w.alloc (.cells #[.map none] 58)) :=
    AnyZ.keys_gives_nil (ρ := Tryd.keys61_ren) { Tryd.keys61 with } Fence.wide _ trivial rfl w.heap.size _ (by simp) (by simp)
  exact AnyZ.sorted_in Tryd.sorted60 Fence.wide 5 trivial trivial trivial trivial rfl (by omega) (keys_sorts _) (enters_of Tryd.func78 (by kernel_rfl) rfl) 79 #[.pointer (some ⟨w.heap.size, 0, none⟩)] trivial (enters_of Tryd.func79 (by kernel_rfl) rfl) _ 0 (Nat.zero_le _) (by omega) _ hseq


theorem strKeys_len {D : DataW Unit} (h : IsMap D) : (strKeys D).length = Maps.size D := by
  obtain ⟨es, rfl⟩ := h
  simp [strKeys, Maps.size_eq]
def LenPost (k : Nat) (w : World) (e : Ending) (w' : World) : Prop := ∃ ao cap, e = .returned (.slice ao k cap) ∧ Below w.heap.size w w'
theorem row_len {w : World} {base : Nat} {e : TypeId} {v : Value} {n : Nat} {L : List Value} (h : w.ownsRow base e 1 v n L) : ∃ ao cap, v = .slice ao n cap := by
  rcases h.2 with ⟨h1, h2⟩ | ⟨g, cap, cur, hv, _⟩
  · exact ⟨none, 0, by rw [h1, h2]⟩
  · exact ⟨_, cap, hv⟩

set_option maxRecDepth 100000 in
set_option maxHeartbeats 1000000 in
theorem paths_ok (a : Addr) (b n : Nat) (D : DataW Unit) (w : World) (hM : Mir w a (some b) n D) (hD : IsMap D) (hsz : Maps.size D ≤ 1000) :
    Calls Tryd.prog 29 #[.pointer (some a)] w (LenPost (Maps.size D) w) := by
  have hc := hM.cell
  have hK := (callsIn_wide (n := 5)).1 (keys_any (some b) w)
  have hS := (callsIn_wide (n := 5)).1 (keys_sorted b n D fileR w hM.map (by unfold maxLen; omega) (by omega))
  have HS := Lib.hid hS
  have HK := Lib.hid hK
  have HD := Lib.hid hD
  clear hS hK hM hD
  go_enter Tryd.func29, Tryd.ntmps29
  go_wp2_with fail
  refine HK.out.mono ?_
  rintro e w1 ⟨rfl, rfl⟩
  go_wp2_with fail
  refine HS.out.mono ?_
  rintro e w2 ⟨v, ss, rfl, hperm, hrow, -, hb⟩
  obtain ⟨ao, cap, rfl⟩ := row_len hrow
  have hlen : ss.length = Maps.size D := by rw [hperm.length_eq, strKeys_len HD.out]
  have HB := Lib.hid (((Below.refl w.heap.size w).alloc (Nat.le_refl _) (.cells #[.map (some b)] 58)).trans (hb.mono (by rw [size_alloc]; omega)))
  clear hb hrow hperm HS HK
  rw [hlen]
  go_wp2_with fail
  go_ret
  exact ⟨ao, cap, rfl, HB.out⟩
set_option maxRecDepth 100000 in
set_option maxHeartbeats 1000000 in
theorem paths_nil (a : Addr) (n : Nat) (D : DataW Unit) (w : World) (hM : Mir w a none n D) :
    Calls Tryd.prog 29 #[.pointer (some a)] w (LenPost 0 w) := by
  have hc := hM.cell
  have HK := Lib.hid ((callsIn_wide (n := 5)).1 (keys_any none w))
  have HS := Lib.hid ((callsIn_wide (n := 5)).1 (keys_sorted_nil w))
  clear hM
  go_enter Tryd.func29, Tryd.ntmps29
  go_wp2_with fail
  refine HK.out.mono ?_
  rintro e w1 ⟨rfl, rfl⟩
  go_wp2_with fail
  refine HS.out.mono ?_
  rintro e w2 ⟨v, ss, rfl, hss, hrow, -, hb⟩
  subst hss
  obtain ⟨ao, cap, rfl⟩ := row_len hrow
  have HB := Lib.hid (((Below.refl w.heap.size w).alloc (Nat.le_refl _) (.cells #[.map none] 58)).trans (hb.mono (by rw [size_alloc]; omega)))
  clear hb hrow HS HK
  go_wp2_with fail
  go_ret
  exact ⟨ao, cap, rfl, HB.out⟩
end Go.Proofs.YtobepddifflpdaaDoor
