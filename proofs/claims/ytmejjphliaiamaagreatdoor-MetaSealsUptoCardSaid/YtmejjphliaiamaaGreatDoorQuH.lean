import Derived.Test.YtmejjphliaiamaaGreatDoorQuG
set_option linter.unusedVariables false
set_option linter.unusedSimpArgs false
namespace Go.Proofs.YtmejjphliaiamaaGreatDoor
open Go Go.RowKit Go.Lib

/-! ### plain laws: sealed alike, and read again -/
theorem wOut_bad1 (s : ByteArray) : wOut (s, true) = (⟨#[]⟩, 1) := rfl
theorem rseal_eq (body : ByteArray) (L : List SigT) : rsealP body L = sealP body L := by
  unfold rsealP sealP
  by_cases h1 : 65535 < body.size
  · rw [if_pos (show 65535 < body.size ∨ 16 < L.length ∨ L.any longS = true from .inl h1)]
    split
    · rfl
    · have hb : (rText (⟨#[]⟩, false) body).2 = true := by unfold rText; rw [if_pos h1]
      have h2 : (rlayP (rText (⟨#[]⟩, false) body) L).2 = true := by
        unfold rlayP
        have h3 : (wNum (rText (⟨#[]⟩, false) body) L.length 1).2 = true := by
          unfold wNum
          split
          · rfl
          · exact hb
        rw [rlayF_bad h3]
        exact h3
      rw [h2]
      rfl
  · by_cases h2 : 16 < L.length
    · rw [if_pos h2, if_pos (show 65535 < body.size ∨ 16 < L.length ∨ L.any longS = true from .inr (.inl h2))]
    · rw [if_neg h2]
      cases h3 : L.any longS with
      | true => rw [if_pos (.inr (.inr rfl)), Bool.or_true]; rfl
      | false =>
        rw [if_neg (by rintro (h | h | h); exact h1 h; exact h2 h; cases h), Bool.or_false]
        exact (weq_sigs ((WEq.refl (⟨#[]⟩, false)).text body) L).out.symm
def sigsB : List SigT → ByteArray
  | [] => ⟨#[]⟩
  | x :: r => x.1 ++ (numB x.2.size 2 ++ (x.2 ++ sigsB r))
theorem pHash_good {q : WS} {s : ByteArray} (h : (pHash q s).2 = false) : q.2 = false ∧ s.size = 32 ∧ (pHash q s).1 = q.1 ++ s := by
  unfold pHash at h ⊢
  simp only [Bool.or_eq_false_iff, decide_eq_false_iff_not, ne_eq, Decidable.not_not] at h
  exact ⟨h.1, h.2, rfl⟩
theorem pText_good {q : WS} {s : ByteArray} (h : (pText q s).2 = false) : q.2 = false ∧ s.size ≤ 65535 ∧ (pText q s).1 = q.1 ++ numB s.size 2 ++ s := by
  have h2 : (wNum q s.size 2).2 = false := h
  obtain ⟨h3, h4, h5⟩ := wNum_good h2
  refine ⟨h3, ?_, by unfold pText; rw [h5]⟩
  unfold badN at h4
  simp at h4
  omega
theorem ba_assoc (a b c : ByteArray) : a ++ b ++ c = a ++ (b ++ c) := ByteArray.append_assoc
theorem layP_good {q : WS} {x : SigT} (h : (layP q x).2 = false) : q.2 = false ∧ x.1.size = 32 ∧ x.2.size ≤ 65535 ∧ (layP q x).1 = q.1 ++ (x.1 ++ (numB x.2.size 2 ++ x.2)) := by
  obtain ⟨h1, h2, h3⟩ := pText_good h
  obtain ⟨h4, h5, h6⟩ := pHash_good h1
  refine ⟨h4, h5, h2, ?_⟩
  show (pText (pHash q x.1) x.2).1 = _
  rw [h3, h6]
  simp only [ba_assoc]
theorem foldP_good : ∀ (L : List SigT) {q : WS}, (L.foldl layP q).2 = false → q.2 = false ∧ (∀ x ∈ L, x.1.size = 32 ∧ x.2.size ≤ 65535) ∧ (L.foldl layP q).1 = q.1 ++ sigsB L
  | [], q, h => ⟨h, fun x hx => (List.not_mem_nil hx).elim, by show q.1 = q.1 ++ ⟨#[]⟩; exact ByteArray.append_empty.symm⟩
  | x :: r, q, h => by
    obtain ⟨h1, h2, h3⟩ := foldP_good r (q := layP q x) h
    obtain ⟨g1, g2, g3, g4⟩ := layP_good h1
    refine ⟨g1, fun y hy => ?_, ?_⟩
    · rcases List.mem_cons.1 hy with rfl | hy
      · exact ⟨g2, g3⟩
      · exact h2 y hy
    · show (r.foldl layP (layP q x)).1 = q.1 ++ sigsB (x :: r)
      rw [h3, g4, sigsB]
      simp only [ba_assoc]
theorem takeN_cons (r : RS) : ∀ k, takeN r (k + 1) = (((rRaw r 32).1, (rTxt (rRaw r 32).2 1024).1) :: (takeN (rTxt (rRaw r 32).2 1024).2 k).1, (takeN (rTxt (rRaw r 32).2 1024).2 k).2)
  | 0 => rfl
  | k + 1 => by
    have ih := takeN_cons r k
    rw [takeN, ih]
    rfl
theorem takeN_back : ∀ (L : List SigT) (b : ByteArray), (∀ x ∈ L, x.1.size = 32 ∧ x.2.size ≤ 1024) → takeN (sigsB L ++ b, 0) L.length = (L, (b, 0))
  | [], b, h => by show (([] : List SigT), ((⟨#[]⟩ : ByteArray) ++ b, (0 : Int))) = _; rw [show (⟨#[]⟩ : ByteArray) ++ b = b from ByteArray.empty_append]
  | x :: r, b, h => by
    obtain ⟨h1, h2⟩ := h x (List.mem_cons_self)
    have e1 : rRaw (sigsB (x :: r) ++ b, 0) 32 = (x.1, (numB x.2.size 2 ++ (x.2 ++ (sigsB r ++ b)), 0)) := by
      rw [sigsB]
      simp only [ba_assoc]
      have := rRaw_app x.1 (numB x.2.size 2 ++ (x.2 ++ (sigsB r ++ b)))
      rwa [h1] at this
    have e2 := rTxt_app x.2 (sigsB r ++ b) 1024 (by omega) (by omega)
    rw [List.length_cons, takeN_cons, e1]
    dsimp only
    rw [e2]
    dsimp only
    rw [takeN_back r b (fun y hy => h y (List.mem_cons_of_mem _ hy))]
theorem us_back {body : ByteArray} {L : List SigT} (h : (sealP body L).2 = 0) : usP (sealP body L).1 = ((body, L), 0) := by
  unfold sealP at h ⊢
  by_cases hc : 65535 < body.size ∨ 16 < L.length ∨ L.any longS = true
  · rw [if_pos hc] at h
    cases h
  · rw [if_neg hc] at h ⊢
    obtain ⟨h1, h2⟩ := wOut_ok h
    rw [h2]
    clear h h2
    have h16 : ¬ 16 < L.length := fun h => hc (.inr (.inl h))
    have hany : ∀ x ∈ L, x.2.size ≤ 1024 := by
      intro x hx
      rcases Nat.lt_or_ge 1024 x.2.size with hl | hl
      · exact absurd (.inr (.inr (List.any_eq_true.2 ⟨x, hx, decide_eq_true hl⟩))) hc
      · exact hl
    obtain ⟨g1, g2, g3⟩ := foldP_good L (q := wNum (pText (⟨#[]⟩, false) body) L.length 1) h1
    obtain ⟨k1, k2, k3⟩ := wNum_good g1
    obtain ⟨m1, m2, m3⟩ := pText_good k1
    have e : (laySigsP (pText (⟨#[]⟩, false) body) L).1 = numB body.size 2 ++ (body ++ (numB L.length 1 ++ (sigsB L ++ ⟨#[]⟩))) := by
      show (L.foldl layP _).1 = _
      rw [g3, k3, m3]
      dsimp only
      rw [show (⟨#[]⟩ : ByteArray) ++ numB body.size 2 = numB body.size 2 from ByteArray.empty_append, show sigsB L ++ (⟨#[]⟩ : ByteArray) = sigsB L from ByteArray.append_empty]
      simp only [ba_assoc]
    rw [e]
    have a1 : usA (numB body.size 2 ++ (body ++ (numB L.length 1 ++ (sigsB L ++ ⟨#[]⟩)))) = (body, (numB L.length 1 ++ (sigsB L ++ ⟨#[]⟩), 0)) := rTxt_app body _ 65535 (by omega) m2
    have a2 := rNum_app L.length 1 (sigsB L ++ ⟨#[]⟩) k2 (by decide) (by omega)
    have a2' : rNum (numB L.length 1 ++ (sigsB L ++ ⟨#[]⟩), 0) 1 = ((L.length : Int), (sigsB L ++ ⟨#[]⟩, 0)) := a2
    have a3 := takeN_back L ⟨#[]⟩ (fun x hx => ⟨(g2 x hx).1, hany x hx⟩)
    have a4 : usT (numB body.size 2 ++ (body ++ (numB L.length 1 ++ (sigsB L ++ ⟨#[]⟩)))) = (L, (⟨#[]⟩, 0)) := by
      unfold usT
      rw [a1]
      unfold takeP
      dsimp only
      rw [a2']
      dsimp only
      rw [Int.toNat_natCast, a3]
      rfl
    unfold usP
    rw [a4, a1]
    dsimp only
    rw [rEnd_nil, if_neg (by rintro (h | h); exact h rfl; exact h16 h)]
end Go.Proofs.YtmejjphliaiamaaGreatDoor
