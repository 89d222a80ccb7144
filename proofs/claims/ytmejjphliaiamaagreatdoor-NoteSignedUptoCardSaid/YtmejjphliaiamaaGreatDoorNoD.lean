import Derived.Test.YtmejjphliaiamaaGreatDoorNoC
set_option linter.unusedVariables false
set_option linter.unusedSimpArgs false
namespace Go.Proofs.YtmejjphliaiamaaGreatDoor
open Go Go.RowKit Go.Lib

/-! ### the document's lines -/
def LnRel (s : ByteArray) (w : World) (v at_ i : Value) (wr : World) : Prop :=
  ∃ (k a : Nat) (done : List ByteArray), k ≤ s.size ∧ a ≤ k ∧ i = .int .i64 k ∧ at_ = .int .i64 a ∧ done.length ≤ k ∧ cutsL s.data.toList = done.map (·.data.toList) ++ cutsL (s.data.toList.drop a) ∧ (∀ c ∈ (s.data.toList.drop a).take (k - a), c ≠ 10) ∧
    OwnS wr w.heap.size v done ∧ Below w.heap.size w wr ∧ w.heap.size ≤ wr.heap.size
theorem drop_mid (s : ByteArray) (a k : Nat) (ha : a ≤ k) (h : k < s.size) : s.data.toList.drop a = (s.data.toList.drop a).take (k - a) ++ s.data.toList.getD k 0 :: s.data.toList.drop (k + 1) := by
  rw [← drop_getD s k h]
  have : s.data.toList.drop k = (s.data.toList.drop a).drop (k - a) := by rw [List.drop_drop]; congr 1; omega
  rw [this, List.take_append_drop]
theorem take_mid (s : ByteArray) (a k : Nat) (ha : a ≤ k) (h : k < s.size) : (s.data.toList.drop a).take (k + 1 - a) = (s.data.toList.drop a).take (k - a) ++ [s.data.toList.getD k 0] := by
  have h1 := drop_mid s a k ha h
  have hl : ((s.data.toList.drop a).take (k - a)).length = k - a := by
    have e2 : s.data.toList.length = s.size := Array.length_toList
    rw [List.length_take, List.length_drop]; omega
  conv => lhs; rw [h1]
  rw [List.take_append, hl]
  have e1 : k + 1 - a - (k - a) = 1 := by omega
  rw [e1, List.take_of_length_le (by omega)]
  rfl
theorem extract_mid (s : ByteArray) (a k : Nat) : (s.extract a k).data.toList = (s.data.toList.drop a).take (k - a) := by
  rw [extract_data]
theorem below_appL {α : Type} {e : TypeId} {size : Nat} {mk : α → List Value} {B : Nat} {w wr w' : World} {v : Value} {l : List α} (hb : Below B w wr) (hO : OwnL e size mk wr B v l) (hs : B ≤ wr.heap.size) (o : Obj) (hg : (wr.alloc o).grownBy w' v.ownBlock) : Below B w w' ∧ B ≤ w'.heap.size := by
  have hbase : B ≤ (wr.alloc o).heap.size := by rw [size_alloc]; omega
  exact ⟨(hb.alloc hs _).grown hg hbase (fun g hg => (hO.lt g hg).1), Nat.le_trans hbase hg.size⟩
def LinesPost (s : ByteArray) (w : World) (e : Ending) (w' : World) : Prop := ∃ (v : Value) (done : List ByteArray) (fl : Bool), e = .returned (.tuple #[v, .bool fl]) ∧ OwnS w' w.heap.size v done ∧ done.map (·.data.toList) = (cutsL s.data.toList).dropLast ∧ (fl = true ↔ (cutsL s.data.toList).getLast? = some []) ∧ Below w.heap.size w w'

set_option maxRecDepth 100000 in
set_option maxHeartbeats 1000000 in
theorem lines_any (s : ByteArray) (w : World) (hs : s.size ≤ 100000000) :
    Calls Tryz.prog 140 #[.string s] w (LinesPost s w) := by
  go_enter Tryz.func140, Tryz.ntmps140
  go_wp2_with fail
  go_loopw [4, 5, 6] (fun v at_ i wr => LnRel s w v at_ i wr) (fun _ _ i _ => s.size - (intOf i).toNat)
  case atStart => exact ⟨0, 0, [], Nat.zero_le _, Nat.le_refl _, rfl, rfl, Nat.le_refl _, rfl, by simp, ownL_nil _ _, Below.refl _ _, Nat.le_refl _⟩
  case round =>
    obtain ⟨k, a, done, hk, hak, rfl, rfl, hdk, hcut, hcl, hO, hK, hsz⟩ := hrel
    have HO := Lib.hid hO
    have HK := Lib.hid hK
    have HC := Lib.hid hcut
    have HCL := Lib.hid hcl
    clear hO hK hcut hcl
    have hai : (0 : Int) ≤ (a : Int) := Int.natCast_nonneg _
    have haki : (a : Int) ≤ (k : Int) := by omega
    by_cases hlt : k < s.size
    · have hix := fun W => idx_str s k hlt W
      have hdm := drop_mid s a k hak hlt
      have htm := take_mid s a k hak hlt
      generalize s.data.toList.getD k 0 = c at hix hdm htm
      have HD := Lib.hid hdm
      have HT := Lib.hid htm
      clear hdm htm
      have hk0 : (0 : Int) ≤ (k : Int) := Int.natCast_nonneg _
      have hk1 : (k : Int) < (s.size : Int) := by omega
      have hk2 : (k : Int) ≤ (s.size : Int) := by omega
      by_cases hc : c = 10
      · have hcb : ((c.toNat : Int) == 10) = true := by rw [hc]; rfl
        have hci : (c.toNat : Int) = 10 := by rw [hc]; rfl
        have hnew : cutsL s.data.toList = (done ++ [s.extract a k]).map (·.data.toList) ++ cutsL (s.data.toList.drop (k + 1)) := by
          rw [HC.out, HD.out, hc, cutsL_app _ _ HCL.out, List.map_append, List.append_assoc]
          simp [extract_mid]
        have HN := Lib.hid hnew
        clear hnew hc
        obtain ⟨i0, hi, hz0, hz1, hz2⟩ := info_parts infoStr
        have HI2 := Lib.hid hz2
        clear hz2
        go_wp2_with (first | (at_builtin; refine wpList_appL _ rfl _ _ 22 rfl i0 (.string ⟨#[]⟩) 16 Tryz.underlying22 hi hz0 hz1 HI2.out rfl (by decide) w.heap.size _ done rfl (OwnL.alloc HO.out _) (s.extract a k) rfl ⟨wr.heap.size, 0, none⟩ 1 rfl (one_str wr _ _) ?_ ?_ (by decide) ?_ ?_) | fail)
        · intro u hu; simp at hu; subst hu; rfl
        · omega
        · rw [size_alloc]; omega
        intro v4 w4 ho4 hg4 hown4
        have HF := Lib.hid (And.intro ho4 (below_appL HK.out HO.out hsz _ hg4))
        clear ho4 hg4 hown4
        go_wp2_with fail
        refine ⟨⟨k + 1, k + 1, _, hlt, Nat.le_refl _, rfl, rfl, (by rw [List.length_append]; simp; omega), HN.out, (by simp), HF.out.1, HF.out.2.1, HF.out.2.2⟩, ?_⟩
        show s.size - ((k : Int) + 1).toNat < s.size - (k : Int).toNat
        omega
      · have hcb : ((c.toNat : Int) == 10) = false := beq_eq_false_iff_ne.2 (fun h => hc (by apply UInt8.toNat_inj.1; show c.toNat = 10; omega))
        have hci : ¬ (c.toNat : Int) = 10 := fun h => hc (by apply UInt8.toNat_inj.1; show c.toNat = 10; omega)
        have hnew : ∀ d ∈ (s.data.toList.drop a).take (k + 1 - a), d ≠ 10 := by
          intro d hd
          rw [HT.out] at hd
          rcases List.mem_append.1 hd with h | h
          · exact HCL.out d h
          · simp at h; subst h; exact hc
        have HN := Lib.hid hnew
        clear hnew hc
        go_wp2_with fail
        refine ⟨⟨k + 1, a, done, hlt, by omega, rfl, rfl, by omega, HC.out, HN.out, HO.out, HK.out, hsz⟩, ?_⟩
        show s.size - ((k : Int) + 1).toNat < s.size - (k : Int).toNat
        omega
    · obtain rfl : k = s.size := by omega
      have hcl2 := HCL.out
      rw [List.take_of_length_le (by rw [List.length_drop, Array.length_toList]; exact Nat.le_refl _)] at hcl2
      have hall : cutsL s.data.toList = done.map (·.data.toList) ++ [s.data.toList.drop a] := by rw [HC.out, cutsL_clean _ hcl2]
      have HA := Lib.hid hall
      have hlen : (s.data.toList.drop a = []) ↔ a = s.size := by
        rw [List.drop_eq_nil_iff, Array.length_toList]
        show s.size ≤ a ↔ _
        omega
      have HLn := Lib.hid hlen
      obtain ⟨fl, hfl⟩ : ∃ fl, fl = ((a : Int) == (s.size : Int)) := ⟨_, rfl⟩
      have HFL := Lib.hid hfl
      clear hcl2 hall hlen
      go_wp2_with fail
      rw [← HFL.out]
      go_ret2
      refine ⟨_, done, fl, rfl, HO.out, ?_, ?_, HK.out⟩
      · rw [HA.out, List.dropLast_concat]
      · rw [HA.out, List.getLast?_concat, HFL.out, beq_iff_eq]
        constructor
        · intro h; rw [HLn.out.2 (by omega)]
        · intro h; have := HLn.out.1 (Option.some.inj h); omega
end Go.Proofs.YtmejjphliaiamaaGreatDoor
