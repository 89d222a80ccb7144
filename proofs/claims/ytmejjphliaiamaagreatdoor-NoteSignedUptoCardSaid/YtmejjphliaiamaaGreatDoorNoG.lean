import Derived.Test.YtmejjphliaiamaaGreatDoorNoF
set_option linter.unusedVariables false
set_option linter.unusedSimpArgs false
namespace Go.Proofs.YtmejjphliaiamaaGreatDoor
open Go Go.RowKit Go.Lib

/-! ### the plain law of checkpoints -/
theorem unD_dig (k : Nat) (h : k < 16) : unD (dig16 k) = k := by
  have : ∀ i : Fin 16, unD (dig16 i.1) = i.1 := by decide +kernel
  exact this ⟨k, h⟩
theorem oneB_of (c : UInt8) : oneB (16 * ((c.toNat / 16 : Nat) : Int) + ((c.toNat % 16 : Nat) : Int)) = ⟨#[c]⟩ := by
  have e : 16 * ((c.toNat / 16 : Nat) : Int) + ((c.toNat % 16 : Nat) : Int) = (c.toNat : Int) := by omega
  rw [e]
  unfold oneB b8
  have h := c.toNat_lt
  have e2 : ((c.toNat : Int) % 256).toNat = c.toNat := by omega
  rw [e2]
  simp
theorem unhexGo_hex : ∀ (l : List UInt8) (acc : ByteArray), unhexGo acc (hexL l) = some (acc ++ ⟨l.toArray⟩)
  | [], acc => by
    show some acc = _
    congr 1
    exact (ByteArray.append_empty).symm
  | c :: r, acc => by
    have h := c.toNat_lt
    rw [hexL, unhexGo_cons, unD_dig _ (by omega), unD_dig _ (by omega), if_neg (by omega), unhexGo_hex r, oneB_of]
    congr 1
    apply ba_ext
    simp
theorem unhex_hex (r : ByteArray) : unhexB (hexB r) = (r, true) := by
  refine unhexB_some ?_
  show unhexGo ⟨#[]⟩ (hexL r.data.toList) = _
  rw [unhexGo_hex]
  exact congrArg some (ba_ext (by simp))
theorem hexL_clean : ∀ (l : List UInt8), ∀ c ∈ hexL l, c ≠ 10
  | [], c, h => by cases h
  | a :: r, c, h => by
    have hd : ∀ k : Fin 16, dig16 k.1 ≠ 10 := by decide +kernel
    have ha := a.toNat_lt
    rcases List.mem_cons.1 h with rfl | h
    · exact hd ⟨_, by omega⟩
    · rcases List.mem_cons.1 h with rfl | h
      · exact hd ⟨_, by omega⟩
      · exact hexL_clean r c h
theorem good_parts {o : ByteArray} {n : Int} {r : ByteArray} (h : cpGood o n r = true) : (∀ c ∈ o.data.toList, c ≠ 10) ∧ 0 ≤ n ∧ n ≤ 1024 := by
  unfold cpGood origG at h
  simp only [Bool.and_eq_true, decide_eq_true_eq, List.all_eq_true] at h
  obtain ⟨⟨⟨h1, h2⟩, h3⟩, h4, h5, h6⟩ := h
  refine ⟨fun c hc h10 => ?_, h4, h5⟩
  have := h3 c hc
  rw [h10] at this
  revert this
  decide
theorem pcs_cpT {o : ByteArray} {n : Int} {r : ByteArray} (h : cpGood o n r = true) : pcs (cpT o n r) = [headW, o, itoaB n, hexB r, ⟨#[]⟩] := by
  obtain ⟨h1, h2, h3⟩ := good_parts h
  have hp := pcs_data (cpT o n r)
  have hl : (cpT o n r).data.toList = headW.data.toList ++ 10 :: (o.data.toList ++ 10 :: ((itoaB n).data.toList ++ 10 :: ((hexB r).data.toList ++ 10 :: []))) := by
    unfold cpT
    simp [nlB]
  have h7 : ∀ c ∈ (itoaB n).data.toList, c ≠ 10 := (itoa_small n h2 h3).2.1
  have h8 : ∀ c ∈ (hexB r).data.toList, c ≠ 10 := hexL_clean r.data.toList
  rw [hl, cutsL_app _ _ (by decide), cutsL_app _ _ h1, cutsL_app _ _ h7, cutsL_app _ _ h8] at hp
  have hinj : ∀ (a b : List ByteArray), a.map (·.data.toList) = b.map (·.data.toList) → a = b := by
    intro a
    induction a with
    | nil => intro b hb; cases b with
      | nil => rfl
      | cons x y => simp at hb
    | cons x y ih => intro b hb; cases b with
      | nil => simp at hb
      | cons u v =>
        simp only [List.map_cons, List.cons.injEq] at hb
        rw [ba_ext hb.1, ih v hb.2]
  apply hinj
  rw [hp]
  rfl
theorem takes_iff {c : Cp} {t : ByteArray} : takes c t = true ↔ cpV c.1 c.2.1 c.2.2 = (t, 0) := by
  unfold takes
  rw [Bool.and_eq_true, decide_eq_true_eq, decide_eq_true_eq]
  constructor
  · rintro ⟨h1, h2⟩
    exact Prod.ext h2 h1
  · intro h
    rw [h]
    exact ⟨rfl, rfl⟩
theorem cpV_okN {o : ByteArray} {n : Int} {r t : ByteArray} (h : cpV o n r = (t, 0)) : cpGood o n r = true ∧ t = cpT o n r := by
  cases hg : cpGood o n r with
  | true => rw [cpV_good hg] at h; exact ⟨rfl, (Prod.mk.inj h).1.symm⟩
  | false => rw [cpV_bad hg] at h; exact absurd (Prod.mk.inj h).2 (by decide)
theorem parseP_back {o : ByteArray} {n : Int} {r t : ByteArray} (h : cpV o n r = (t, 0)) : parseP t = ((o, n, r), 0) := by
  obtain ⟨hg, rfl⟩ := cpV_okN h
  obtain ⟨-, h2, h3⟩ := good_parts hg
  have hi := (itoa_small n h2 h3).2.2
  rw [parseP_five (pcs_cpT hg)]
  have hc : cand o (itoaB n) (hexB r) = (o, n, r) := by unfold cand; rw [hi, unhex_hex]
  rw [hc, hi, takes_iff.2 h]
  rfl
theorem parseR_back {o : ByteArray} {n : Int} {r t : ByteArray} (h : cpV o n r = (t, 0)) : parseR t = ((o, n, r), 0) := by
  obtain ⟨hg, rfl⟩ := cpV_okN h
  obtain ⟨-, h2, h3⟩ := good_parts hg
  have hlast : (cutsL (cpT o n r).data.toList).getLast? = some [] := by
    rw [← pcs_data, pcs_cpT hg]
    rfl
  rw [parseR_four hlast (pcs_cpT hg), sizeR_itoa n h2 h3, unhex_hex, takes_iff.2 h]
  rfl
theorem parseP_cases (t : ByteArray) : parseP t = (cp0, 3) ∨ ∃ c : Cp, parseP t = (c, 0) ∧ cpV c.1 c.2.1 c.2.2 = (t, 0) := by
  unfold parseP
  split
  · split
    · rename_i h
      rw [Bool.and_eq_true] at h
      exact .inr ⟨_, rfl, takes_iff.1 h.2⟩
    · exact .inl rfl
  · exact .inl rfl
theorem parseR_cases (t : ByteArray) : parseR t = (cp0, 3) ∨ ∃ c : Cp, parseR t = (c, 0) ∧ cpV c.1 c.2.1 c.2.2 = (t, 0) := by
  unfold parseR
  split
  · split
    · split
      · rename_i h
        rw [Bool.and_eq_true] at h
        exact .inr ⟨_, rfl, takes_iff.1 h.2⟩
      · exact .inl rfl
    · exact .inl rfl
  · exact .inl rfl
theorem parse_same (t : ByteArray) : parseP t = parseR t := by
  rcases parseP_cases t with h | ⟨c, h, hc⟩
  · rcases parseR_cases t with h2 | ⟨c, h2, hc⟩
    · rw [h, h2]
    · rw [parseP_back hc] at h
      rw [parseP_back hc, parseR_back hc]
  · rw [h, parseR_back hc]
end Go.Proofs.YtmejjphliaiamaaGreatDoor
