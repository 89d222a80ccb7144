import Derived.Test.YtmejjphliaiamaaGreatDoorNoK
import Derived.Test.YtmejjphliaiamaaGreatDoorNoG
set_option linter.unusedVariables false
set_option linter.unusedSimpArgs false
namespace Go.Proofs.YtmejjphliaiamaaGreatDoor
open Go Go.RowKit Go.Lib

/-! ### a note's text by its lines, without memory -/
theorem cutsL_nl (r : List UInt8) : cutsL (10 :: r) = [] :: cutsL r := by rw [cutsL, if_pos rfl]
theorem cutsL_step {c : UInt8} {r q : List UInt8} {Q : List (List UInt8)} (hc : c ≠ 10) (h : cutsL r = q :: Q) : cutsL (c :: r) = (c :: q) :: Q := by rw [cutsL, if_neg hc, h]
theorem cutsL_head (p : List UInt8) : ∃ q Q, cutsL p = q :: Q := by
  cases h : cutsL p with
  | nil => exact absurd h (cutsL_ne p)
  | cons q Q => exact ⟨q, Q, rfl⟩
theorem cutsL_snoc_nl : ∀ (p r : List UInt8), (cutsL p).getLast? = some [] → cutsL (p ++ r) = (cutsL p).dropLast ++ cutsL r
  | [], r, _ => by simp [cutsL]
  | c :: p, r, h => by
    obtain ⟨q, Q, hq⟩ := cutsL_head p
    by_cases hc : c = 10
    · subst hc
      rw [cutsL_nl] at h
      have hl : (cutsL p).getLast? = some [] := by rw [hq] at h ⊢; simpa using h
      rw [List.cons_append, cutsL_nl, cutsL_nl, cutsL_snoc_nl p r hl, hq]
      rfl
    · rw [cutsL_step hc hq] at h
      cases Q with
      | nil => simp at h
      | cons q' Q' =>
        have hl : (cutsL p).getLast? = some [] := by rw [hq]; simpa using h
        have ih := cutsL_snoc_nl p r hl
        rw [hq] at ih
        rw [List.cons_append, cutsL_step hc hq, cutsL_step hc (ih.trans rfl)]
        rfl
def joinNl : List (List UInt8) → List UInt8
  | [] => []
  | p :: r => p ++ 10 :: joinNl r
theorem joinNl_cuts : ∀ p : List UInt8, (cutsL p).getLast? = some [] → joinNl (cutsL p).dropLast = p
  | [], _ => rfl
  | c :: p, h => by
    obtain ⟨q, Q, hq⟩ := cutsL_head p
    by_cases hc : c = 10
    · subst hc
      rw [cutsL_nl] at h ⊢
      have hl : (cutsL p).getLast? = some [] := by rw [hq] at h ⊢; simpa using h
      have ih := joinNl_cuts p hl
      rw [hq] at ih ⊢
      show [] ++ 10 :: joinNl (q :: Q).dropLast = _
      rw [ih]; rfl
    · rw [cutsL_step hc hq] at h ⊢
      cases Q with
      | nil => simp at h
      | cons q' Q' =>
        have hl : (cutsL p).getLast? = some [] := by rw [hq]; simpa using h
        have ih := joinNl_cuts p hl
        rw [hq] at ih
        show c :: (q ++ 10 :: joinNl (q' :: Q').dropLast) = _
        have ih' : q ++ 10 :: joinNl (q' :: Q').dropLast = p := ih
        rw [ih']

def TxtG (t : List UInt8) : Prop := (cutsL t).getLast? = some [] ∧ (cutsL t).dropLast ≠ [] ∧ ∀ d ∈ (cutsL t).dropLast, d ≠ []
theorem con_cons (b : UInt8) (l sub : List UInt8) : Lib.contains (b :: l) sub = (sub.isPrefixOf (b :: l) || Lib.contains l sub) := by
  unfold Lib.contains
  rw [Lib.index]
  have hge := Lib.index_ge l sub
  cases hp : sub.isPrefixOf (b :: l) with
  | true => simp
  | false =>
    by_cases hm : Lib.index l sub = -1
    · simp [hm]
    · have : ¬ (Lib.index l sub == -1) = true := fun e => hm (beq_iff_eq.1 e)
      rw [if_neg (by simp), if_neg this, Bool.false_or, decide_eq_decide]
      omega
theorem suf_last (t : List UInt8) : (Lib.hasSuffix t [10] = true) ↔ t.getLast? = some 10 := by
  unfold Lib.hasSuffix
  rw [List.isSuffixOf_iff_suffix, List.getLast?_eq_some_iff]
  exact ⟨fun ⟨q, h⟩ => ⟨q, h.symm⟩, fun ⟨q, h⟩ => ⟨q, h.symm⟩⟩
theorem txt_go : ∀ t : List UInt8, t ≠ [] → ((t.getLast? = some 10 ∧ Lib.contains t [10, 10] = false) ↔ ((cutsL t).getLast? = some [] ∧ ∀ d ∈ (cutsL t).dropLast.tail, d ≠ []))
  | [], h => absurd rfl h
  | [c], _ => by
    by_cases hc : c = 10
    · subst hc; decide
    · simp [cutsL, hc]
  | c :: d :: p, _ => by
    have ih := txt_go (d :: p) (by simp)
    obtain ⟨q, Q, hq⟩ := cutsL_head (d :: p)
    have hlast : (c :: d :: p).getLast? = (d :: p).getLast? := List.getLast?_cons_cons
    have hqd : d = 10 ∧ q = [] ∧ Q ≠ [] ∨ d ≠ 10 ∧ q ≠ [] := by
      by_cases hd : d = 10
      · subst hd
        rw [cutsL_nl] at hq
        obtain ⟨h1, h2⟩ := List.cons.inj hq
        exact .inl ⟨rfl, h1.symm, h2 ▸ cutsL_ne p⟩
      · obtain ⟨q1, Q1, h1⟩ := cutsL_head p
        rw [cutsL_step hd h1] at hq
        obtain ⟨h2, _⟩ := List.cons.inj hq
        exact .inr ⟨hd, by rw [← h2]; simp⟩
    rw [hq] at ih
    rw [hlast, con_cons]
    by_cases hc : c = 10
    · subst hc
      rw [cutsL_nl, hq]
      rcases hqd with ⟨hd, hq0, hQ⟩ | ⟨hd, hq0⟩
      · subst hd
        have h1 : ([10, 10] : List UInt8).isPrefixOf (10 :: 10 :: p) = true := by simp [List.isPrefixOf]
        rw [h1]
        cases Q with
        | nil => exact absurd rfl hQ
        | cons q1 Q1 => subst hq0; simp
      · have h1 : ([10, 10] : List UInt8).isPrefixOf (10 :: d :: p) = false := by simp [List.isPrefixOf, Ne.symm hd]
        rw [h1, Bool.false_or, ih]
        cases Q with
        | nil => simp [hq0]
        | cons q1 Q1 => simp [hq0]
    · rw [cutsL_step hc hq]
      have h1 : ([10, 10] : List UInt8).isPrefixOf (c :: d :: p) = false := by simp [List.isPrefixOf, Ne.symm hc]
      rw [h1, Bool.false_or, ih]
      cases Q with
      | nil =>
        rcases hqd with ⟨_, _, hQ⟩ | ⟨_, hq0⟩
        · exact absurd rfl hQ
        · simp [hq0]
      | cons q1 Q1 => simp
theorem txt_iff (t : List UInt8) : (Lib.hasSuffix t [10] && (!Lib.hasPrefix t [10] && !Lib.contains t [10, 10])) = true ↔ TxtG t := by
  simp only [Bool.and_eq_true, Bool.not_eq_true', suf_last]
  cases t with
  | nil => simp [TxtG, cutsL]
  | cons c p =>
    obtain ⟨q, Q, hq⟩ := cutsL_head p
    have hg := txt_go (c :: p) (by simp)
    have hpre : Lib.hasPrefix (c :: p) [10] = decide (c = 10) := by
      unfold Lib.hasPrefix
      by_cases hc : c = 10
      · simp [List.isPrefixOf, hc]
      · simp [List.isPrefixOf, hc, Ne.symm hc]
    rw [hpre, and_left_comm, hg]
    unfold TxtG
    by_cases hc : c = 10
    · subst hc
      rw [cutsL_nl, hq]
      simp
    · rw [cutsL_step hc hq]
      simp only [hc, decide_false]
      cases Q with
      | nil => simp
      | cons q1 Q1 => simp
theorem noteG_iff (t : ByteArray) (L : List SigT) : noteG t L = true ↔ L.length ≤ 16 ∧ TxtG t.data.toList ∧ ∀ x ∈ L, sigBad x = false := by
  unfold noteG
  rw [Bool.and_eq_true, decide_eq_true_eq, ← txt_iff]
  simp only [Bool.and_eq_true, Bool.not_eq_true', and_assoc]
  constructor
  · rintro ⟨h1, h2, h3, h4, h5⟩
    refine ⟨h1, h2, h3, h4, fun x hx => ?_⟩
    rw [List.any_eq_false] at h5
    simpa using h5 x hx
  · rintro ⟨h1, h2, h3, h4, h5⟩
    refine ⟨h1, h2, h3, h4, ?_⟩
    rw [List.any_eq_false]
    intro x hx
    simp [h5 x hx]

/-! ### the lines of signatures -/
def bodyL (x : SigT) : List UInt8 := 115 :: 105 :: 103 :: 32 :: (hexL x.1.data.toList ++ 32 :: hexL x.2.data.toList)
def bodyB (x : SigT) : ByteArray := ⟨(bodyL x).toArray⟩
theorem sigLine_data (x : SigT) : (sigLine x).data.toList = bodyL x ++ [10] := by
  unfold sigLine bodyL hexB
  simp [sigW, spB, nlB]
theorem hexL_ne (v : UInt8) (hv : ∀ k : Fin 16, dig16 k.1 ≠ v) : ∀ (l : List UInt8), ∀ c ∈ hexL l, c ≠ v
  | [], c, h => by cases h
  | a :: r, c, h => by
    have ha := a.toNat_lt
    rcases List.mem_cons.1 h with rfl | h
    · exact hv ⟨_, by omega⟩
    · rcases List.mem_cons.1 h with rfl | h
      · exact hv ⟨_, by omega⟩
      · exact hexL_ne v hv r c h
theorem hexL_sp (l : List UInt8) : ∀ c ∈ hexL l, c ≠ 32 := hexL_ne 32 (by decide +kernel) l
theorem bodyL_clean (x : SigT) : ∀ c ∈ bodyL x, c ≠ 10 := by
  intro c hc
  unfold bodyL at hc
  simp only [List.mem_cons, List.mem_append] at hc
  rcases hc with rfl | rfl | rfl | rfl | h | rfl | h
  · decide
  · decide
  · decide
  · decide
  · exact hexL_clean _ _ h
  · decide
  · exact hexL_clean _ _ h
theorem sigsT_cons_data (x : SigT) (r : List SigT) : (sigsT (x :: r)).data.toList = bodyL x ++ 10 :: (sigsT r).data.toList := by
  show (sigLine x ++ sigsT r).data.toList = _
  rw [ByteArray.data_append, Array.toList_append, sigLine_data]
  simp
theorem cutsL_sigs : ∀ L : List SigT, cutsL (sigsT L).data.toList = L.map bodyL ++ [[]]
  | [] => rfl
  | x :: r => by rw [sigsT_cons_data, cutsL_app _ _ (bodyL_clean x), cutsL_sigs r]; rfl
theorem trim_sigs (L : List SigT) (hL : L ≠ []) : cutsL (Lib.trimSuffix (sigsT L).data.toList [10]) = L.map bodyL := by
  obtain ⟨I, x, rfl⟩ : ∃ I x, L = I ++ [x] := ⟨L.dropLast, L.getLast hL, (List.dropLast_concat_getLast hL).symm⟩
  have e : (sigsT (I ++ [x])).data.toList = ((sigsT I).data.toList ++ bodyL x) ++ [10] := by
    rw [sigsT_snoc, ByteArray.data_append, Array.toList_append, sigLine_data, List.append_assoc]
  rw [e]
  unfold Lib.trimSuffix
  rw [if_pos ((suf_last _).2 (by simp))]
  have h2 : (((sigsT I).data.toList ++ bodyL x) ++ [10]).take ((((sigsT I).data.toList ++ bodyL x) ++ [10]).length - ([10] : List UInt8).length) = (sigsT I).data.toList ++ bodyL x := by
    rw [List.length_append, Nat.add_sub_cancel, List.take_left']
    rfl
  rw [h2, cutsL_snoc_nl _ _ (by rw [cutsL_sigs, List.getLast?_concat]), cutsL_sigs, List.dropLast_concat, cutsL_clean _ (bodyL_clean x), List.map_append]
  rfl

/-! ### the program's reading -/
theorem index_at (v : UInt8) : ∀ (a b : List UInt8), (∀ c ∈ a, c ≠ v) → Lib.index (a ++ v :: b) [v] = a.length
  | [], b, _ => by
    show Lib.index (v :: b) [v] = 0
    rw [Lib.index, if_pos (by simp [List.isPrefixOf])]
  | c :: a, b, h => by
    have hc := h c (by simp)
    have ih := index_at v a b fun d hd => h d (by simp [hd])
    rw [List.cons_append, Lib.index, if_neg (by simp [List.isPrefixOf, Ne.symm hc]), ih]
    have hn : ¬ (((a.length : Nat) : Int) == -1) = true := fun e => by have := beq_iff_eq.1 e; omega
    rw [if_neg hn, List.length_cons]
    rfl
theorem cut_at (v : UInt8) (a b : List UInt8) (h : ∀ c ∈ a, c ≠ v) : Lib.cut (a ++ v :: b) [v] = (a, b, true) := by
  unfold Lib.cut
  rw [index_at v a b h, if_pos (Int.natCast_nonneg _), Int.toNat_natCast]
  have e1 : (a ++ v :: b).take a.length = a := List.take_left' rfl
  have e2 : (a ++ v :: b).drop (a.length + ([v] : List UInt8).length) = b := by
    rw [← List.drop_drop, List.drop_left' rfl]; rfl
  rw [e1, e2]
def cutB1 (s : ByteArray) (sep : List UInt8) : ByteArray := ⟨(Lib.cut s.data.toList sep).1.toArray⟩
def cutB2 (s : ByteArray) (sep : List UInt8) : ByteArray := ⟨(Lib.cut s.data.toList sep).2.1.toArray⟩
def trimPB (s : ByteArray) (p : List UInt8) : ByteArray := ⟨(Lib.trimPrefix s.data.toList p).toArray⟩
def trimSB (s : ByteArray) (p : List UInt8) : ByteArray := ⟨(Lib.trimSuffix s.data.toList p).toArray⟩
def lineSig (x : ByteArray) : SigT := ((unhexB (cutB1 (trimPB x [115, 105, 103, 32]) [32])).1, (unhexB (cutB2 (trimPB x [115, 105, 103, 32]) [32])).1)
def takeS : Nat → List ByteArray → List SigT
  | _, [] => []
  | k, x :: r => if x.size = 0 then [] else if 16 < k + 1 then [lineSig x] else lineSig x :: takeS (k + 1) r
def textP (s : ByteArray) : ByteArray := cutB1 s [10, 10] ++ nlB
def candP (s : ByteArray) : List SigT := takeS 0 (pcs (trimSB (cutB2 s [10, 10]) [10]))
abbrev NtV := ByteArray × List SigT
def nt0 : NtV := (⟨#[]⟩, [])
def readP (s : ByteArray) : NtV × Int := if fmtV (textP s) (candP s) = (s, 0) then ((textP s, candP s), 0) else (nt0, 3)

theorem lineSig_body (x : SigT) : lineSig (bodyB x) = x := by
  have h1 : trimPB (bodyB x) [115, 105, 103, 32] = ⟨(hexL x.1.data.toList ++ 32 :: hexL x.2.data.toList).toArray⟩ := by
    unfold trimPB bodyB bodyL Lib.trimPrefix Lib.hasPrefix
    simp [List.isPrefixOf]
  unfold lineSig cutB1 cutB2
  rw [h1]
  have h2 : (⟨(hexL x.1.data.toList ++ 32 :: hexL x.2.data.toList).toArray⟩ : ByteArray).data.toList = hexL x.1.data.toList ++ 32 :: hexL x.2.data.toList := by simp
  rw [h2, cut_at 32 _ _ (hexL_sp _)]
  show ((unhexB (hexB x.1)).1, (unhexB (hexB x.2)).1) = x
  rw [unhex_hex, unhex_hex]
theorem takeS_bodies : ∀ (L : List SigT) (k : Nat), k + L.length ≤ 16 → takeS k (L.map bodyB) = L
  | [], _, _ => rfl
  | x :: r, k, h => by
    rw [List.length_cons] at h
    have hs : (bodyB x).size ≠ 0 := by
      have : (bodyB x).size = (bodyL x).length := by simp [bodyB, ByteArray.size]
      rw [this]; simp [bodyL]
    rw [List.map_cons, takeS, if_neg hs, if_neg (by omega), lineSig_body, takeS_bodies r (k + 1) (by omega)]
theorem map_data_inj : ∀ (a b : List ByteArray), a.map (·.data.toList) = b.map (·.data.toList) → a = b
  | [], [], _ => rfl
  | [], _ :: _, h => by simp at h
  | _ :: _, [], h => by simp at h
  | x :: y, u :: v, h => by
    simp only [List.map_cons, List.cons.injEq] at h
    rw [ba_ext h.1, map_data_inj y v h.2]
theorem pcs_of {t : ByteArray} {l : List ByteArray} (h : cutsL t.data.toList = l.map (·.data.toList)) : pcs t = l := map_data_inj _ _ ((pcs_data t).trans h)
theorem txtG_last {t : List UInt8} (h : TxtG t) : ∃ u, t = u ++ [10] ∧ Lib.contains t [10, 10] = false := by
  have := (txt_iff t).2 h
  simp only [Bool.and_eq_true, Bool.not_eq_true', suf_last] at this
  obtain ⟨h1, _, h3⟩ := this
  obtain ⟨u, hu⟩ := List.getLast?_eq_some_iff.1 h1
  exact ⟨u, hu, h3⟩
theorem cut_text {t r : List UInt8} (h : TxtG t) : ∃ u, t = u ++ [10] ∧ Lib.cut (t ++ 10 :: r) [10, 10] = (u, r, true) := by
  obtain ⟨u, rfl, hc⟩ := txtG_last h
  refine ⟨u, rfl, ?_⟩
  have hno : ∀ j, j ≤ (u ++ [10]).length → Lib.occAt (u ++ [10]) [10, 10] j = false := by
    rcases Lib.index_spec (u ++ [10]) [10, 10] with ⟨_, h2⟩ | ⟨i, h1, _⟩
    · exact h2
    · unfold Lib.contains at hc
      rw [h1] at hc
      simp at hc
  have hi : Lib.index (u ++ [10] ++ 10 :: r) [10, 10] = u.length := by
    refine Lib.index_first (by simp) ?_ ?_
    · unfold Lib.occAt
      have : (u ++ [10] ++ 10 :: r).drop u.length = 10 :: 10 :: r := by rw [List.append_assoc, List.drop_left' rfl]; rfl
      rw [this]
      simp [List.isPrefixOf]
    · intro j hj
      have h1 := hno j (by simp; omega)
      unfold Lib.occAt at h1 ⊢
      have e1 : (u ++ [10] ++ 10 :: r).drop j = (u ++ [10]).drop j ++ 10 :: r := List.drop_append_of_le_length (by simp; omega)
      rw [e1]
      have hlen : 2 ≤ ((u ++ [10]).drop j).length := by rw [List.length_drop, List.length_append]; simp; omega
      generalize (u ++ [10]).drop j = z at h1 hlen
      match z, hlen with
      | a :: b :: z', _ => simpa [List.isPrefixOf] using h1
  unfold Lib.cut
  rw [hi, if_pos (Int.natCast_nonneg _), Int.toNat_natCast]
  have e1 : (u ++ [10] ++ 10 :: r).take u.length = u := by rw [List.append_assoc]; exact List.take_left' rfl
  have e2 : (u ++ [10] ++ 10 :: r).drop (u.length + ([10, 10] : List UInt8).length) = r := by
    rw [← List.drop_drop, List.append_assoc, List.drop_left' rfl]; rfl
  rw [e1, e2]
theorem fmtV_ok {t s : ByteArray} {L : List SigT} (h : fmtV t L = (s, 0)) : noteG t L = true ∧ s = t ++ nlB ++ sigsT L := by
  cases hg : noteG t L with
  | false => rw [fmtV_bad hg] at h; exact absurd (congrArg Prod.snd h) (by show ¬ (1 : Int) = 0; decide)
  | true => rw [fmtV_good hg] at h; exact ⟨rfl, (congrArg Prod.fst h).symm⟩
theorem fmt_data (t : ByteArray) (L : List SigT) : (t ++ nlB ++ sigsT L).data.toList = t.data.toList ++ 10 :: (sigsT L).data.toList := by
  simp [nlB]
theorem readP_cand {t s : ByteArray} {L : List SigT} (h : fmtV t L = (s, 0)) : textP s = t ∧ candP s = L := by
  obtain ⟨hg, rfl⟩ := fmtV_ok h
  obtain ⟨hl, hT, hs⟩ := (noteG_iff t L).1 hg
  obtain ⟨u, hu, hc⟩ := cut_text (r := (sigsT L).data.toList) hT
  have e1 : cutB1 (t ++ nlB ++ sigsT L) [10, 10] = ⟨u.toArray⟩ := by unfold cutB1; rw [fmt_data, hc]
  have e2 : cutB2 (t ++ nlB ++ sigsT L) [10, 10] = sigsT L := by unfold cutB2; rw [fmt_data, hc]
  refine ⟨?_, ?_⟩
  · unfold textP
    rw [e1]
    apply ba_ext
    rw [hu]
    simp [nlB]
  · unfold candP
    rw [e2]
    cases L with
    | nil => rfl
    | cons x r =>
      have : pcs (trimSB (sigsT (x :: r)) [10]) = (x :: r).map bodyB := by
        refine pcs_of ?_
        have h3 : (trimSB (sigsT (x :: r)) [10]).data.toList = Lib.trimSuffix (sigsT (x :: r)).data.toList [10] := by unfold trimSB; simp
        rw [h3, trim_sigs _ (by simp), List.map_map]
        refine List.map_congr_left fun y _ => ?_
        simp [bodyB]
      rw [this]
      exact takeS_bodies _ 0 (by omega)
theorem readP_back {t s : ByteArray} {L : List SigT} (h : fmtV t L = (s, 0)) : readP s = ((t, L), 0) := by
  obtain ⟨h1, h2⟩ := readP_cand h
  unfold readP
  rw [h1, h2, if_pos h]
theorem readP_cases (s : ByteArray) : (readP s = (nt0, 3) ∧ ∀ t L, fmtV t L ≠ (s, 0)) ∨ ∃ t L, readP s = ((t, L), 0) ∧ fmtV t L = (s, 0) := by
  by_cases h : fmtV (textP s) (candP s) = (s, 0)
  · exact .inr ⟨_, _, readP_back h, h⟩
  · refine .inl ⟨if_neg h, fun t L hf => ?_⟩
    obtain ⟨h1, h2⟩ := readP_cand hf
    rw [h1, h2] at h
    exact h hf
end Go.Proofs.YtmejjphliaiamaaGreatDoor
