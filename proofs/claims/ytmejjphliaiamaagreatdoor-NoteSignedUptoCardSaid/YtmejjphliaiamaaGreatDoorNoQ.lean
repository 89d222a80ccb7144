import Derived.Test.YtmejjphliaiamaaGreatDoorNoM
set_option linter.unusedVariables false
set_option linter.unusedSimpArgs false
namespace Go.Proofs.YtmejjphliaiamaaGreatDoor
open Go Go.RowKit Go.Lib

/-! ### the document's reading, without memory -/
def leadK : List ByteArray → Nat
  | [] => 0
  | x :: r => if x.size = 0 then 0 else leadK r + 1
def joinB : List ByteArray → ByteArray
  | [] => ⟨#[]⟩
  | x :: r => x ++ nlB ++ joinB r
theorem joinB_snoc (l : List ByteArray) (x : ByteArray) : joinB (l ++ [x]) = joinB l ++ x ++ nlB := by
  induction l with
  | nil => show x ++ nlB ++ (⟨#[]⟩ : ByteArray) = ⟨#[]⟩ ++ x ++ nlB; apply ba_ext; simp
  | cons y r ih => show y ++ nlB ++ joinB (r ++ [x]) = y ++ nlB ++ joinB r ++ x ++ nlB; rw [ih]; simp [ByteArray.append_assoc]
theorem joinB_data (l : List ByteArray) : (joinB l).data.toList = joinNl (l.map (·.data.toList)) := by
  induction l with
  | nil => rfl
  | cons y r ih =>
    show (y ++ nlB ++ joinB r).data.toList = y.data.toList ++ 10 :: joinNl (r.map (·.data.toList))
    rw [← ih]
    simp [nlB]
def sigOk (x : ByteArray) : Bool := decide (69 ≤ x.size) && (decide (x.extract 0 4 = sigW) && decide (x.data.toList.getD 68 0 = 32))
def sigTwo (x : ByteArray) : Bool := (unhexB (x.extract 4 68)).2 && (unhexB (x.extract 69 x.size)).2
def sigR (x : ByteArray) : SigT := ((unhexB (x.extract 4 68)).1, (unhexB (x.extract 69 x.size)).1)
def sigAll (x : ByteArray) : Bool := sigOk x && sigTwo x
def linesR (s : ByteArray) : List ByteArray := (pcs s).dropLast
def restR (l : List ByteArray) : List ByteArray := (l.drop (leadK l + 1)).take 19
def textR (l : List ByteArray) : ByteArray := joinB (l.take (leadK l))
def readL (s : ByteArray) (l : List ByteArray) : NtV × Int :=
  if (restR l).all sigAll = true then (if fmtV (textR l) ((restR l).map sigR) = (s, 0) then ((textR l, (restR l).map sigR), 0) else (nt0, 3)) else (nt0, 3)
def readR (s : ByteArray) : NtV × Int := if (cutsL s.data.toList).getLast? = some [] then readL s (linesR s) else (nt0, 3)

theorem leadK_app (D E : List ByteArray) (h : ∀ d ∈ D, d.size ≠ 0) : leadK (D ++ ⟨#[]⟩ :: E) = D.length := by
  induction D with
  | nil => show (if (⟨#[]⟩ : ByteArray).size = 0 then 0 else leadK E + 1) = 0; exact if_pos rfl
  | cons d D ih =>
    show (if d.size = 0 then 0 else leadK (D ++ ⟨#[]⟩ :: E) + 1) = _
    rw [if_neg (h d (by simp)), ih fun e he => h e (by simp [he])]
    rfl
theorem body_ext (x : SigT) (a b : Nat) : ((bodyB x).extract a b).data.toList = ((bodyL x).drop a).take (b - a) := by
  rw [extract_data]
  simp [bodyB]
theorem body_all {x : SigT} (h1 : x.1.size = 32) (h2 : 1 ≤ x.2.size) : sigAll (bodyB x) = true ∧ sigR (bodyB x) = x := by
  have hA : (hexL x.1.data.toList).length = 64 := by
    rw [hexL_length]
    have : x.1.data.toList.length = x.1.size := Array.length_toList
    omega
  have hB : (hexL x.2.data.toList).length = 2 * x.2.size := by
    rw [hexL_length]
    have : x.2.data.toList.length = x.2.size := Array.length_toList
    omega
  have hs : (bodyB x).size = 69 + 2 * x.2.size := by
    have : (bodyB x).size = (bodyL x).length := by simp [bodyB, ByteArray.size]
    rw [this]
    unfold bodyL
    simp only [List.length_cons, List.length_append, hA, hB]
    omega
  have e1 : (bodyB x).extract 4 68 = hexB x.1 := by
    apply ba_ext
    rw [body_ext]
    show (hexL x.1.data.toList ++ 32 :: hexL x.2.data.toList).take 64 = _
    rw [List.take_left' hA]
    simp [hexB]
  have e2 : (bodyB x).extract 69 (bodyB x).size = hexB x.2 := by
    apply ba_ext
    rw [body_ext]
    show ((hexL x.1.data.toList ++ 32 :: hexL x.2.data.toList).drop 65).take _ = _
    have : (hexL x.1.data.toList ++ 32 :: hexL x.2.data.toList).drop 65 = hexL x.2.data.toList := by
      rw [show 65 = 64 + 1 from rfl, ← List.drop_drop, List.drop_left' hA]; rfl
    rw [this, List.take_of_length_le (by rw [hB, hs]; omega)]
    simp [hexB]
  have e3 : (bodyB x).extract 0 4 = sigW := by
    apply ba_ext
    rw [body_ext]
    rfl
  have e4 : (bodyB x).data.toList.getD 68 0 = 32 := by
    have : (bodyB x).data.toList = bodyL x := by simp [bodyB]
    rw [this]
    show (hexL x.1.data.toList ++ 32 :: hexL x.2.data.toList).getD 64 0 = 32
    rw [List.getD_eq_getElem?_getD, List.getElem?_append_right (by omega), hA]
    rfl
  refine ⟨?_, ?_⟩
  · unfold sigAll sigOk sigTwo
    rw [e1, e2, e3, e4, unhex_hex, unhex_hex, decide_eq_true (show 69 ≤ (bodyB x).size by omega)]
    simp
  · unfold sigR
    rw [e1, e2, unhex_hex, unhex_hex]
theorem fmt_pcs {t : ByteArray} {L : List SigT} (hT : TxtG t.data.toList) :
    ∃ D : List ByteArray, D.map (·.data.toList) = (cutsL t.data.toList).dropLast ∧ pcs (t ++ nlB ++ sigsT L) = (D ++ ⟨#[]⟩ :: L.map bodyB) ++ [⟨#[]⟩] := by
  refine ⟨(pcs t).dropLast, by rw [List.map_dropLast, pcs_data], pcs_of ?_⟩
  rw [fmt_data, cutsL_snoc_nl _ _ hT.1, cutsL_nl, cutsL_sigs, ← pcs_data, List.map_append, List.map_append, List.map_cons, List.map_map, List.map_dropLast, List.append_assoc]
  have e : L.map bodyL = L.map ((·.data.toList) ∘ bodyB) := List.map_congr_left fun y _ => by simp [bodyB]
  rw [e]
  rfl
theorem sigBad_iff {x : SigT} (h : sigBad x = false) : x.1.size = 32 ∧ 1 ≤ x.2.size ∧ x.2.size ≤ 1024 := by
  unfold sigBad at h
  simp only [Bool.or_eq_false_iff, Bool.not_eq_false', decide_eq_true_eq, decide_eq_false_iff_not] at h
  omega
theorem readR_eq (s : ByteArray) : readR s = readP s := by
  rcases readP_cases s with ⟨h, hno⟩ | ⟨t, L, h, hf⟩
  · rw [h]
    unfold readR readL
    by_cases h1 : (cutsL s.data.toList).getLast? = some []
    · rw [if_pos h1]
      by_cases h2 : (restR (linesR s)).all sigAll = true
      · rw [if_pos h2, if_neg (hno _ _)]
      · rw [if_neg h2]
    · rw [if_neg h1]
  · rw [h]
    obtain ⟨hg, rfl⟩ := fmtV_ok hf
    obtain ⟨hl, hT, hs⟩ := (noteG_iff t L).1 hg
    obtain ⟨D, hD, hp⟩ := fmt_pcs (t := t) (L := L) hT
    have hlast : (cutsL (t ++ nlB ++ sigsT L).data.toList).getLast? = some [] := by rw [← pcs_data, hp, List.map_append, List.map_singleton, List.getLast?_concat]
    have hlin : linesR (t ++ nlB ++ sigsT L) = D ++ ⟨#[]⟩ :: L.map bodyB := by unfold linesR; rw [hp, List.dropLast_concat]
    have hne : ∀ d ∈ D, d.size ≠ 0 := by
      intro d hd h0
      have h1 : d.data.toList ∈ (cutsL t.data.toList).dropLast := by rw [← hD]; exact List.mem_map_of_mem hd
      refine hT.2.2 _ h1 ?_
      have : d.data.toList.length = d.size := Array.length_toList
      exact List.eq_nil_of_length_eq_zero (by omega)
    have hk := leadK_app D (L.map bodyB) hne
    have hrest : restR (D ++ ⟨#[]⟩ :: L.map bodyB) = L.map bodyB := by
      unfold restR
      rw [hk, ← List.drop_drop, List.drop_left' rfl]
      show (L.map bodyB).take 19 = _
      rw [List.take_of_length_le (by rw [List.length_map]; omega)]
    have htext : textR (D ++ ⟨#[]⟩ :: L.map bodyB) = t := by
      unfold textR
      rw [hk, List.take_left' rfl]
      apply ba_ext
      rw [joinB_data, hD, joinNl_cuts _ hT.1]
    have hall : (L.map bodyB).all sigAll = true := by
      rw [List.all_map, List.all_eq_true]
      intro x hx
      have := sigBad_iff (hs x hx)
      exact (body_all this.1 this.2.1).1
    have hmap : (L.map bodyB).map sigR = L := by
      rw [List.map_map]
      conv => rhs; rw [← List.map_id L]
      refine List.map_congr_left fun x hx => ?_
      have := sigBad_iff (hs x hx)
      exact (body_all this.1 this.2.1).2
    unfold readR readL
    rw [if_pos hlast, hlin, hrest, htext, hall, if_pos rfl, hmap, if_pos hf]
end Go.Proofs.YtmejjphliaiamaaGreatDoor
