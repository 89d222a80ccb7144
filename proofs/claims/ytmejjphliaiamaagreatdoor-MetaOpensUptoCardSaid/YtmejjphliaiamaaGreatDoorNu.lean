import Derived.Test.YtmejjphliaiamaaGreatDoorNb
set_option linter.unusedVariables false
namespace Go.Proofs.YtmejjphliaiamaaGreatDoor
open Go Go.RowKit Go.Lib

def NumRel (s : ByteArray) (x : Int) (n B : Nat) (w : World) (v i : Value) (wr : World) : Prop :=
  ∃ k : Nat, k ≤ n ∧ i = .int .i64 ((n : Int) - 1 - k) ∧ OwnB wr B v (s ++ numTop x n k) ∧ KU B w wr ∧ B ≤ wr.heap.size

set_option maxRecDepth 100000 in
set_option maxHeartbeats 1000000 in
theorem number_any (B : Nat) (v : Value) (s : ByteArray) (x : Int) (n : Nat) (w : World) (hO : OwnB w B v s) (hx : 0 ≤ x ∧ x < 18446744073709551616) (hn : n ≤ 8) (hB : B ≤ w.heap.size) (hz : s.size ≤ 70368744177000) :
    Calls Tryz.prog 121 #[v, .int .u64 x, .int .i64 n] w fun e w' => ∃ v', e = .returned v' ∧ OwnB w' B v' (s ++ numB x n) ∧ KU B w w' := by
  have HO0 := Lib.hid hO
  clear hO
  go_enter Tryz.func121, Tryz.ntmps121
  go_wp2_with fail
  go_loopw [0, 7] (fun v i wr => NumRel s x n B w v i wr) (fun _ i _ => (intOf i + 1).toNat)
  case atStart => exact ⟨0, Nat.zero_le _, by congr 1; omega, by rw [numTop, app_nil]; exact HO0.out, KU.refl _ _, hB⟩
  case round =>
    obtain ⟨k, hk, rfl, hO, hbel, hsz⟩ := hrel
    have HO := Lib.hid hO
    have HB := Lib.hid hbel
    clear hO hbel HO0
    by_cases hlt : k < n
    · obtain ⟨d, hd⟩ : ∃ d : Nat, d = n - 1 - k := ⟨_, rfl⟩
      have h8 : d = 0 ∨ d = 1 ∨ d = 2 ∨ d = 3 ∨ d = 4 ∨ d = 5 ∨ d = 6 ∨ d = 7 := by omega
      have hdk : (n : Int) - 1 - (k : Int) = d := by omega
      have Hd := Lib.hid hd
      clear hd
      rcases h8 with rfl | rfl | rfl | rfl | rfl | rfl | rfl | rfl
      all_goals
        go_wp2_with (first | (at_builtin; refine wpList_appB _ rfl rfl _ _ rfl B _ (s ++ numTop x n k) rfl (HO.out.alloc _) (oneB (x / (256 ^ (n - 1 - k) : Nat))) ⟨wr.heap.size, 0, none⟩ 1 1 rfl rfl ?_ ?_ ?_ ?_) | fail)
        · refine cells_one (by rw [← Hd.out]; simp <;> omega)
        · rw [ByteArray.size_append, numTop_size, oneB_size]; omega
        · rw [size_alloc]; omega
        intro v' w' ho hg
        have HO2 := Lib.hid ho
        have HG := Lib.hid hg
        clear ho hg
        go_wp2_with fail
        obtain ⟨hb1, hb2⟩ := ku_app HB.out HO.out hsz _ HG.out
        refine ⟨⟨k + 1, hlt, ?_, by rw [numTop, ← ByteArray.append_assoc]; exact HO2.out, hb1, hb2⟩, ?_⟩
        · congr 1; omega
        · exact desc_of rfl rfl (by omega) (by omega)
    · have hkn : k = n := by omega
      subst hkn
      have hd : (k : Int) - 1 - (k : Int) = -1 := by omega
      go_wp2_with fail
      go_ret
      exact ⟨_, rfl, HO.out, HB.out⟩
end Go.Proofs.YtmejjphliaiamaaGreatDoor
