import Derived.Test.YtmejjphliaiamaaGreatDoorQuH
import Derived.Test.YtmejjphliaiamaaGreatDoorMeY
import Derived.Test.YtmejjphliaiamaaGreatDoorMfD
set_option linter.unusedVariables false
set_option linter.unusedSimpArgs false
namespace Go.Proofs.YtmejjphliaiamaaGreatDoor
open Go Go.RowKit Go.Lib

/-! ### what reads just these bytes, and fails on each beginning of them -/
def Rds {α : Type} (f : RS → α × RS) (p : ByteArray) (v : α) : Prop := (∀ t, f (p ++ t, 0) = (v, (t, 0))) ∧ ∀ k, k < p.size → (f (p.extract 0 k, 0)).2.2 ≠ 0
def Kps {α : Type} (f : RS → α × RS) : Prop := ∀ r, r.2 ≠ 0 → (f r).2.2 ≠ 0
theorem ba_len (p : ByteArray) : p.data.toList.length = p.size := Array.length_toList
theorem ext_lt (p q : ByteArray) (k : Nat) (h : k ≤ p.size) : (p ++ q).extract 0 k = p.extract 0 k := by
  apply WideShapes.bytes_inj
  rw [extract_data, extract_data, ByteArray.data_append, Array.toList_append, List.drop_zero, List.drop_zero, Nat.sub_zero, List.take_append_of_le_length (by rw [ba_len]; exact h)]
theorem ext_ge (p q : ByteArray) (k : Nat) (h : p.size ≤ k) : (p ++ q).extract 0 k = p ++ q.extract 0 (k - p.size) := by
  apply WideShapes.bytes_inj
  rw [extract_data, ByteArray.data_append, Array.toList_append, ByteArray.data_append, Array.toList_append, extract_data, List.drop_zero, List.drop_zero, Nat.sub_zero, Nat.sub_zero, List.take_append, ba_len, List.take_of_length_le (by rw [ba_len]; exact h)]
theorem ext_size (p : ByteArray) (k : Nat) (h : k ≤ p.size) : (p.extract 0 k).size = k := by rw [ByteArray.size_extract]; omega

section
variable {α β γ : Type}
theorem Rds.seq {f : RS → α × RS} {g : α → RS → β × RS} (F : α → β → γ) {p q : ByteArray} {v : α} {u : β} (h1 : Rds f p v) (h2 : Rds (g v) q u) (k2 : ∀ a, Kps (g a)) :
    Rds (fun r => (F (f r).1 (g (f r).1 (f r).2).1, (g (f r).1 (f r).2).2)) (p ++ q) (F v u) := by
  refine ⟨fun t => ?_, fun k hk => ?_⟩
  · dsimp only
    rw [ba_assoc, h1.1]
    dsimp only
    rw [h2.1]
  · dsimp only
    by_cases hlt : k < p.size
    · rw [ext_lt p q k (by omega)]
      exact k2 _ _ (h1.2 k hlt)
    · rw [ext_ge p q k (by omega), h1.1]
      exact h2.2 _ (by rw [ByteArray.size_append] at hk; omega)
theorem Rds.then {f : RS → α × RS} {g : α → RS → β × RS} {p q : ByteArray} {v : α} {u : β} (h1 : Rds f p v) (h2 : Rds (g v) q u) (k2 : ∀ a, Kps (g a)) :
    Rds (fun r => g (f r).1 (f r).2) (p ++ q) u := by
  refine ⟨fun t => ?_, fun k hk => ?_⟩
  · dsimp only
    rw [ba_assoc, h1.1]
    dsimp only
    rw [h2.1]
  · dsimp only
    by_cases hlt : k < p.size
    · rw [ext_lt p q k (by omega)]
      exact k2 _ _ (h1.2 k hlt)
    · rw [ext_ge p q k (by omega), h1.1]
      exact h2.2 _ (by rw [ByteArray.size_append] at hk; omega)
theorem Kps.seq {f : RS → α × RS} {g : α → RS → β × RS} (F : α → β → γ) (h1 : Kps f) (k2 : ∀ a, Kps (g a)) : Kps (fun r => (F (f r).1 (g (f r).1 (f r).2).1, (g (f r).1 (f r).2).2)) :=
  fun r h => k2 _ _ (h1 r h)
theorem Rds.of_eq {f : RS → α × RS} {p p' : ByteArray} {v v' : α} (h : Rds f p v) (hp : p = p') (hv : v = v') : Rds f p' v' := hp ▸ hv ▸ h
end
theorem rds_raw (p : ByteArray) (n : Int) (h : (p.size : Int) = n) : Rds (fun r => rRaw r n) p p := by
  subst h
  refine ⟨fun t => rRaw_app p t, fun k hk => ?_⟩
  dsimp only
  unfold rRaw
  rw [if_neg (show ¬ ((0 : Int) ≠ 0) by decide), if_neg (by omega), if_pos (by show ((p.extract 0 k).size : Int) < _; rw [ext_size p k (by omega)]; omega)]
  exact (by decide : (2 : Int) ≠ 0)
theorem kps_raw (n : Int) : Kps (fun r => rRaw r n) := fun r h => by dsimp only; rw [rRaw_err h]; exact h
theorem rds_num (x : Int) (n : Nat) (h : badN x n = false) (h8 : n ≤ 8) (hx : x ≤ 9223372036854775807) : Rds (fun r => rNum r n) (numB x n) x :=
  ⟨fun t => rNum_app x n t h h8 hx, fun k hk => (rds_raw (numB x n) n (by rw [numB_size])).2 k hk⟩
theorem kps_num (n : Int) : Kps (fun r => rNum r n) := kps_raw n
theorem badN_ok {x : Int} {n : Nat} (h0 : 0 ≤ x) (h1 : x < ((256 ^ n : Nat) : Int)) : badN x n = false := by
  unfold badN
  rw [decide_eq_false (by omega), decide_eq_false (show ¬ ((256 ^ n : Nat) : Int) ≤ x by omega), Bool.and_false]
  rfl
theorem beL_ge : ∀ (l : List UInt8) (a : Nat), a * 256 ^ l.length ≤ l.foldl (fun x (c : UInt8) => 256 * x + c.toNat) a
  | [], a => by simp
  | c :: l, a => by
    rw [List.foldl_cons, List.length_cons, Nat.pow_succ]
    refine Nat.le_trans ?_ (beL_ge l _)
    rw [Nat.mul_comm (256 ^ l.length) 256, ← Nat.mul_assoc]
    exact Nat.mul_le_mul_right _ (by omega)
theorem top8 (x : Int) (h0 : 0 ≤ x) (hx : x ≤ 9223372036854775807) (t : ByteArray) : topBad (numB x 8 ++ t) = false := by
  have hb : badN x 8 = false := by unfold badN; rw [decide_eq_false (by omega)]; rfl
  have hv := beV_numB x 8 hb (by decide) hx
  unfold beV at hv
  have hl : (numB x 8).data.toList.length = 8 := by rw [ba_len, numB_size]
  unfold topBad
  rw [ByteArray.data_append, Array.toList_append]
  generalize (numB x 8).data.toList = l at hv hl
  match l, hl with
  | c :: l, hl =>
    have h1 := beL_ge l c.toNat
    have h2 : beL (c :: l) = l.foldl (fun x (c : UInt8) => 256 * x + c.toNat) c.toNat := by unfold beL; rw [List.foldl_cons, Nat.mul_zero, Nat.zero_add]
    have h3 : l.length = 7 := by rw [List.length_cons] at hl; omega
    rw [h3, show (256 : Nat) ^ 7 = 72057594037927936 by decide] at h1
    have h4 : ¬ 128 ≤ c.toNat := fun h => by omega
    have h5 : decide (128 ≤ ((c :: l ++ t.data.toList).getD 0 0).toNat) = false := decide_eq_false h4
    rw [h5, Bool.and_false]
theorem rds_8 (x : Int) (h0 : 0 ≤ x) (hx : x ≤ 9223372036854775807) : Rds rEight (numB x 8) x := by
  have hb : badN x 8 = false := by unfold badN; rw [decide_eq_false (by omega)]; rfl
  have h := rds_num x 8 hb (by decide) hx
  refine ⟨fun t => ?_, fun k hk => ?_⟩
  · unfold rEight
    rw [if_neg (by show ¬ topBad (numB x 8 ++ t) = true; rw [top8 x h0 hx t]; decide)]
    exact h.1 t
  · unfold rEight
    rw [if_neg]
    · exact h.2 k hk
    · show ¬ topBad ((numB x 8).extract 0 k) = true
      rw [numB_size] at hk
      unfold topBad
      rw [decide_eq_false (by rw [ext_size _ _ (by rw [numB_size]; omega)]; omega), Bool.false_and]
      decide
theorem kps_8 : Kps rEight := fun r h => by
  unfold rEight
  refine kps_num 8 _ ?_
  split
  · unfold rFail; rw [if_neg h]; exact h
  · exact h
theorem rTxt_res (s : ByteArray) (most : Int) : (rTxt (s, 0) most).2.2 ≠ 0 ↔ (rRaw (rTxt2 (s, 0) most) (rNum (s, 0) 2).1).2.2 ≠ 0 := by
  unfold rTxt
  rw [if_neg (show ¬ ((0 : Int) ≠ 0) by decide)]
  dsimp only
  split
  · rename_i h; exact ⟨fun _ => h, fun _ => h⟩
  · rename_i h; exact ⟨fun h2 => absurd h2 h, fun h2 => absurd h2 h⟩
theorem rds_txt (s : ByteArray) (most : Int) (h : (s.size : Int) ≤ most) (h2 : s.size ≤ 65535) : Rds (fun r => rTxt r most) (numB s.size 2 ++ s) s := by
  have hb : badN s.size 2 = false := badN_ok (by omega) (by rw [show ((256 ^ 2 : Nat) : Int) = 65536 by decide]; omega)
  refine ⟨fun t => by dsimp only; rw [ba_assoc]; exact rTxt_app s t most h h2, fun k hk => ?_⟩
  rw [ByteArray.size_append, numB_size] at hk
  dsimp only
  rw [rTxt_res]
  have hN := rds_num s.size 2 hb (by decide) (by omega)
  by_cases h3 : k < 2
  · rw [ext_lt _ _ k (by rw [numB_size]; omega)]
    have e : (rNum ((numB s.size 2).extract 0 k, 0) 2).2.2 ≠ 0 := hN.2 k (by rw [numB_size]; exact h3)
    have e2 : (rTxt2 ((numB s.size 2).extract 0 k, 0) most).2 ≠ 0 := by
      unfold rTxt2
      split
      · unfold rFail; rw [if_neg e]; exact e
      · exact e
    rw [rRaw_err e2]
    exact e2
  · rw [ext_ge _ _ k (by rw [numB_size]; omega), numB_size]
    have e : rNum (numB s.size 2 ++ s.extract 0 (k - 2), 0) 2 = ((s.size : Int), (s.extract 0 (k - 2), 0)) := hN.1 _
    have e2 : rTxt2 (numB s.size 2 ++ s.extract 0 (k - 2), 0) most = (s.extract 0 (k - 2), 0) := by
      unfold rTxt2
      rw [e, if_neg (by show ¬ (max most 0 < (s.size : Int)); omega)]
    rw [e2, e]
    exact (rds_raw s s.size rfl).2 (k - 2) (by omega)
theorem kps_txt (most : Int) : Kps (fun r => rTxt r most) := fun r h => by dsimp only; unfold rTxt; rw [if_pos h]; exact h

theorem snoc_ind {α : Type} {P : List α → Prop} (h0 : P []) (h1 : ∀ l x, P l → P (l ++ [x])) : ∀ l, P l := by
  have h : ∀ l : List α, P l.reverse := by
    intro l
    induction l with
    | nil => exact h0
    | cons x l ih => rw [List.reverse_cons]; exact h1 _ _ ih
  intro l
  have := h l.reverse
  rwa [List.reverse_reverse] at this
/-! targets -/
def tgOne (t : TgtT) : ByteArray := numB t.1 1 ++ (numB t.2.1 2 ++ t.2.2)
def tgB (L : List TgtT) : ByteArray := L.foldl (fun b t => b ++ tgOne t) ⟨#[]⟩
theorem tgB_snoc (L : List TgtT) (x : TgtT) : tgB (L ++ [x]) = tgB L ++ tgOne x := by unfold tgB; rw [List.foldl_append]; rfl
def TgFit (t : TgtT) : Prop := 0 ≤ t.1 ∧ t.1 ≤ 255 ∧ 0 ≤ t.2.1 ∧ t.2.1 < 65536 ∧ t.2.2.size = 32
def oneT (r : RS) : TgtT × RS := (((tt1 r).1, (tt2 r).1, (tt3 r).1), (tt3 r).2)
theorem rds_oneT (t : TgtT) (h : TgFit t) : Rds oneT (tgOne t) t := by
  obtain ⟨h1, h2, h3, h4, h5⟩ := h
  have a := rds_num t.1 1 (badN_ok h1 (by rw [show ((256 ^ 1 : Nat) : Int) = 256 by decide]; omega)) (by decide) (by omega)
  have b := rds_num t.2.1 2 (badN_ok h3 (by rw [show ((256 ^ 2 : Nat) : Int) = 65536 by decide]; omega)) (by decide) (by omega)
  have c := rds_raw t.2.2 32 (by rw [h5]; rfl)
  have bc := Rds.seq (g := fun _ r => rRaw r 32) (fun x y => (x, y)) b c (fun _ => kps_raw 32)
  exact Rds.seq (g := fun _ r => ((((rNum r ((2 : Nat) : Int)).1, (rRaw (rNum r ((2 : Nat) : Int)).2 32).1), (rRaw (rNum r ((2 : Nat) : Int)).2 32).2))) (fun x y => (x, y)) a bc (fun _ => Kps.seq (g := fun _ r => rRaw r 32) (fun x y => (x, y)) (kps_num _) (fun _ => kps_raw 32))
theorem kps_oneT : Kps oneT := fun r h => kps_raw 32 _ (kps_num 2 _ (kps_num 1 _ h))
theorem rds_takeTN : ∀ L : List TgtT, (∀ t ∈ L, TgFit t) → Rds (fun r => takeTN r L.length) (tgB L) L := by
  refine snoc_ind (fun _ => ⟨fun t => by show (([] : List TgtT), ((⟨#[]⟩ : ByteArray) ++ t, (0 : Int))) = _; rw [show (⟨#[]⟩ : ByteArray) ++ t = t from ByteArray.empty_append], fun k hk => absurd hk (Nat.not_lt_zero _)⟩) ?_
  intro L x ih h
  rw [tgB_snoc, List.length_append]
  exact Rds.seq (g := fun _ r => oneT r) (fun l y => l ++ [y]) (ih (fun t ht => h t (by simp [ht]))) (rds_oneT x (h x (by simp))) (fun _ => kps_oneT)
theorem kps_takeTN : ∀ k, Kps (fun r => takeTN r k)
  | 0 => fun r h => h
  | k + 1 => fun r h => kps_oneT _ (kps_takeTN k r h)
def tgsBytes (L : List TgtT) : ByteArray := numB L.length 1 ++ tgB L
theorem rds_takeTg (L : List TgtT) (hl : L.length ≤ 255) (h : ∀ t ∈ L, TgFit t) : Rds takeTg (tgsBytes L) L := by
  have a := rds_num L.length 1 (badN_ok (by omega) (by rw [show ((256 ^ 1 : Nat) : Int) = 256 by decide]; omega)) (by decide) (by omega)
  have b : Rds (fun r => takeTN r (L.length : Int).toNat) (tgB L) L := by
    rw [Int.toNat_natCast]
    exact rds_takeTN L h
  exact Rds.then (g := fun (a : Int) r => takeTN r a.toNat) a b (fun a => kps_takeTN _)
theorem kps_takeTg : Kps takeTg := fun r h => kps_takeTN _ _ (kps_num 1 r h)
/-! sets -/
def idB (L : List ByteArray) : ByteArray := L.foldl (fun b t => b ++ t) ⟨#[]⟩
theorem idB_snoc (L : List ByteArray) (x : ByteArray) : idB (L ++ [x]) = idB L ++ x := by unfold idB; rw [List.foldl_append]; rfl
theorem rds_takeIN : ∀ L : List ByteArray, (∀ t ∈ L, t.size = 32) → Rds (fun r => takeIN r L.length) (idB L) L := by
  refine snoc_ind (fun _ => ⟨fun t => by show (([] : List ByteArray), ((⟨#[]⟩ : ByteArray) ++ t, (0 : Int))) = _; rw [show (⟨#[]⟩ : ByteArray) ++ t = t from ByteArray.empty_append], fun k hk => absurd hk (Nat.not_lt_zero _)⟩) ?_
  intro L x ih h
  rw [idB_snoc, List.length_append]
  exact Rds.seq (g := fun _ r => rRaw r 32) (fun l y => l ++ [y]) (ih (fun t ht => h t (by simp [ht]))) (rds_raw x 32 (by rw [h x (by simp)]; rfl)) (fun _ => kps_raw 32)
theorem kps_takeIN : ∀ k, Kps (fun r => takeIN r k)
  | 0 => fun r h => h
  | k + 1 => fun r h => kps_raw 32 _ (kps_takeIN k r h)
def finS (S : SetT) (r : RS) : SetT × RS :=
  (if (if setGood S = true then r else rFail r 3).2 = 0 then S else ([], 0), if setGood S = true then r else rFail r 3)
theorem rds_finS (S : SetT) (h : setGood S = true) : Rds (finS S) ⟨#[]⟩ S := by
  refine ⟨fun t => ?_, fun k hk => absurd hk (Nat.not_lt_zero _)⟩
  unfold finS
  rw [h, if_pos rfl, if_pos rfl, show (⟨#[]⟩ : ByteArray) ++ t = t from ByteArray.empty_append]
theorem kps_finS (S : SetT) : Kps (finS S) := fun r h => by
  unfold finS
  show (if setGood S = true then r else rFail r 3).2 ≠ 0
  split
  · exact h
  · unfold rFail; rw [if_neg h]; exact h
theorem setGood_ids {S : SetT} (h : setGood S = true) : (1 ≤ S.1.length ∧ S.1.length ≤ 16 ∧ 1 ≤ S.2 ∧ S.2 ≤ S.1.length) ∧ ∀ t ∈ S.1, t.size = 32 := by
  unfold setGood at h
  rw [Bool.and_eq_true] at h
  refine ⟨of_decide_eq_true h.1, fun t ht => ?_⟩
  obtain ⟨i, hi, rfl⟩ := List.getElem_of_mem ht
  have h2 := List.all_eq_true.1 h.2 i (List.mem_range.2 hi)
  unfold idAt at h2
  rw [Bool.and_eq_true] at h2
  have h3 := of_decide_eq_true h2.1
  rwa [List.getD_eq_getElem?_getD, List.getElem?_eq_getElem hi] at h3
def setB (S : SetT) : ByteArray := numB S.1.length 1 ++ (idB S.1 ++ (numB S.2 1 ++ ⟨#[]⟩))
def tsN (a : Int) (r : RS) : SetT × RS := finS ((takeIN r a.toNat).1, (rNum (takeIN r a.toNat).2 1).1) (rNum (takeIN r a.toNat).2 1).2
theorem kps_tsN (a : Int) : Kps (tsN a) := fun r h => kps_finS _ _ (kps_num 1 _ (kps_takeIN _ r h))
theorem rds_takeSet (S : SetT) (h : setGood S = true) : Rds takeSetP (setB S) S := by
  obtain ⟨⟨g1, g2, g3, g4⟩, g5⟩ := setGood_ids h
  have a := rds_num S.1.length 1 (badN_ok (by omega) (by rw [show ((256 ^ 1 : Nat) : Int) = 256 by decide]; omega)) (by decide) (by omega)
  have b := rds_takeIN S.1 g5
  have c := rds_num S.2 1 (badN_ok (by omega) (by rw [show ((256 ^ 1 : Nat) : Int) = 256 by decide]; omega)) (by decide) (by omega)
  have d := rds_finS S h
  have cd : Rds (fun r => finS (S.1, (rNum r 1).1) (rNum r 1).2) (numB S.2 1 ++ ⟨#[]⟩) S := Rds.then (g := fun x r => finS (S.1, x) r) c d (fun _ => kps_finS _)
  have bcd0 := Rds.then (g := fun l r => finS (l, (rNum r 1).1) (rNum r 1).2) b cd (fun _ r h => kps_finS _ _ (kps_num 1 _ h))
  have bcd : Rds (tsN S.1.length) (idB S.1 ++ (numB S.2 1 ++ ⟨#[]⟩)) S := by
    unfold tsN
    rw [Int.toNat_natCast]
    exact bcd0
  exact Rds.then (g := tsN) a bcd kps_tsN
theorem kps_takeSet : Kps takeSetP := fun r h => kps_tsN _ _ (kps_num 1 r h)

/-! ### a document without memory: checked, laid, read -/
structure PD where
  kind : Int
  ver : Int
  exp : Int
  s0 : SetT
  s1 : SetT
  s2 : SetT
  s3 : SetT
  s4 : SetT
  log : ByteArray
  org : ByteArray
  T : List TgtT
  pO : ByteArray
  pS : Int
  pR : ByteArray
  of : Int
  hash : ByteArray
def PD.S (p : PD) : List SetT := [p.s0, p.s1, p.s2, p.s3, p.s4]
def pz : PD := ⟨0, 0, 0, ([], 0), ([], 0), ([], 0), ([], 0), ([], 0), ⟨#[]⟩, ⟨#[]⟩, [], ⟨#[]⟩, 0, ⟨#[]⟩, 0, ⟨#[]⟩⟩
def dvP (p : PD) (a : Nat → Option Addr) (c : Nat → Nat) : DV :=
  ⟨p.kind, p.ver, p.exp, ⟨a 0, p.s0.1.length, c 0, p.s0.2⟩, ⟨a 1, p.s1.1.length, c 1, p.s1.2⟩, ⟨a 2, p.s2.1.length, c 2, p.s2.2⟩, ⟨a 3, p.s3.1.length, c 3, p.s3.2⟩, ⟨a 4, p.s4.1.length, c 4, p.s4.2⟩,
    p.log, p.org, a 5, p.T.length, c 5, p.pO, p.pS, p.pR, p.of, p.hash⟩
def D0 (p : PD) : DV := dvP p (fun _ => none) (fun _ => 0)
def goodP (p : PD) : Bool := if p.kind = 1 then rootGood (D0 p) p.S else if p.kind = 2 then goodTg p.T else if p.kind = 3 then snGood (D0 p) else tsGood p.of p.hash
def zeroK (k : Int) (d : DV) : DV := if k = 1 then d1Z d else if k = 2 then { d with lad := none, ln := 0, lc := 0 } else if k = 3 then d3Z d else { d with of := 0, hash := ⟨#[]⟩ }
def chkP (p : PD) : Int := if 1 ≤ p.kind ∧ p.kind ≤ 4 then chkE (chkB (D0 p) (zeroK p.kind (D0 p)) (goodP p)) else 1
def layK (p : PD) : WS → WS := if p.kind = 1 then lay1 (D0 p) p.S else if p.kind = 2 then layTg p.T else if p.kind = 3 then lay3 (D0 p) else lay4 (D0 p)
def encD (p : PD) : ByteArray × Int := encP (D0 p) (chkP p) (layK p)
def headP (s : ByteArray) : PD := { pz with kind := (rA s).1, ver := (rB s).1, exp := (rC s).1 }
def nthS (L : List SetT) (k : Nat) : SetT := L.getD k ([], 0)
def bodyP (p : PD) (r : RS) : PD × RS :=
  if p.kind = 1 then ({ p with s0 := nthS (takeRN r 5).1 0, s1 := nthS (takeRN r 5).1 1, s2 := nthS (takeRN r 5).1 2, s3 := nthS (takeRN r 5).1 3, s4 := nthS (takeRN r 5).1 4, log := (rt2 r).1, org := (rt3 r).1 }, (rt3 r).2)
  else if p.kind = 2 then ({ p with T := (takeTg r).1 }, (takeTg r).2)
  else if p.kind = 3 then ({ p with of := (ts1 r).1, hash := (ts2 r).1, pO := (sn1 r).1, pS := (sn2 r).1, pR := (sn3 r).1 }, (sn3 r).2)
  else if p.kind = 4 then ({ p with of := (ts1 r).1, hash := (ts2 r).1 }, (ts2 r).2) else (p, r)
def decB (s : ByteArray) : PD × RS := bodyP (headP s) (rC s).2
def decD (s : ByteArray) : PD × Int := if (rEnd (decB s).2).2 ≠ 0 ∨ chkP (decB s).1 ≠ 0 then (pz, 3) else ((decB s).1, 0)

/-! what is laid, as bytes -/
theorem eq_empty {x : ByteArray} (h : decide (x = ⟨#[]⟩) = true) : x = ⟨#[]⟩ := of_decide_eq_true h
theorem zeroS_of {S : SetT} (h : zeroS ⟨none, S.1.length, 0, S.2⟩ = true) : S = ([], 0) := by
  unfold zeroS at h
  rw [Bool.and_eq_true] at h
  have h1 : S.1.length = 0 := of_decide_eq_true h.1
  have h2 : S.2 = 0 := of_decide_eq_true h.2
  obtain ⟨L, n⟩ := S
  dsimp only at h1 h2
  rw [h2, List.eq_nil_of_length_eq_zero h1]
theorem chkE0 {b : Bool} (h : chkE b = 0) : b = true := by cases b <;> first | rfl | cases h
theorem chkP0 {p : PD} (h : chkP p = 0) : (1 ≤ p.kind ∧ p.kind ≤ 4) ∧ (1 ≤ p.ver ∧ p.ver ≤ 65535) ∧ (0 ≤ p.exp ∧ p.exp ≤ 1099511627776) ∧ goodP p = true ∧ emptyB (zeroK p.kind (D0 p)) = true := by
  unfold chkP at h
  split at h
  · rename_i hk
    have h1 := chkE0 h
    unfold chkB at h1
    rw [Bool.and_eq_true, Bool.and_eq_true, Bool.and_eq_true] at h1
    exact ⟨hk, of_decide_eq_true h1.1, of_decide_eq_true h1.2.1, h1.2.2.1, h1.2.2.2⟩
  · cases h
theorem emptyB_of {d : DV} (h : emptyB d = true) : (zeroS d.s0 = true ∧ zeroS d.s1 = true ∧ zeroS d.s2 = true ∧ zeroS d.s3 = true ∧ zeroS d.s4 = true) ∧ d.log = ⟨#[]⟩ ∧ d.org = ⟨#[]⟩ ∧ d.ln = 0 ∧ d.of = 0 ∧ d.hash = ⟨#[]⟩ ∧ d.pO = ⟨#[]⟩ ∧ d.pS = 0 ∧ d.pR = ⟨#[]⟩ := by
  unfold emptyB restZ pointZ setL at h
  simp only [List.all_cons, List.all_nil, Bool.and_true, Bool.and_eq_true, decide_eq_true_eq] at h
  obtain ⟨⟨a, b, c, d1, e⟩, f, g, i, j, k, l, m, n⟩ := h
  exact ⟨⟨a, b, c, d1, e⟩, f, g, i, j, k, l, m, n⟩
/-- a good document has just its kind's fields. -/
theorem chk_form {p : PD} (h : chkP p = 0) :
    (p.kind = 1 ∧ p.T = [] ∧ p.of = 0 ∧ p.hash = ⟨#[]⟩ ∧ p.pO = ⟨#[]⟩ ∧ p.pS = 0 ∧ p.pR = ⟨#[]⟩) ∨
    (p.kind ≠ 1 ∧ p.s0 = ([], 0) ∧ p.s1 = ([], 0) ∧ p.s2 = ([], 0) ∧ p.s3 = ([], 0) ∧ p.s4 = ([], 0) ∧ p.log = ⟨#[]⟩ ∧ p.org = ⟨#[]⟩ ∧
      ((p.kind = 2 ∧ p.of = 0 ∧ p.hash = ⟨#[]⟩ ∧ p.pO = ⟨#[]⟩ ∧ p.pS = 0 ∧ p.pR = ⟨#[]⟩) ∨ (p.kind = 3 ∧ p.T = []) ∨ (p.kind = 4 ∧ p.T = [] ∧ p.pO = ⟨#[]⟩ ∧ p.pS = 0 ∧ p.pR = ⟨#[]⟩))) := by
  obtain ⟨hk, -, -, -, he⟩ := chkP0 h
  have nil : ∀ {L : List TgtT}, L.length = 0 → L = [] := fun h => List.eq_nil_of_length_eq_zero h
  by_cases h1 : p.kind = 1
  · unfold zeroK at he
    rw [if_pos h1] at he
    obtain ⟨-, -, -, b1, b2, b3, b4, b5, b6⟩ := emptyB_of he
    exact .inl ⟨h1, nil b1, b2, b3, b4, b5, b6⟩
  · refine .inr ⟨h1, ?_⟩
    unfold zeroK at he
    rw [if_neg h1] at he
    by_cases h2 : p.kind = 2
    · rw [if_pos h2] at he
      obtain ⟨⟨a0, a1, a2, a3, a4⟩, g1, g2, b1, b2, b3, b4, b5, b6⟩ := emptyB_of he
      exact ⟨zeroS_of a0, zeroS_of a1, zeroS_of a2, zeroS_of a3, zeroS_of a4, g1, g2, .inl ⟨h2, b2, b3, b4, b5, b6⟩⟩
    · rw [if_neg h2] at he
      by_cases h3 : p.kind = 3
      · rw [if_pos h3] at he
        obtain ⟨⟨a0, a1, a2, a3, a4⟩, g1, g2, b1, b2, b3, b4, b5, b6⟩ := emptyB_of he
        exact ⟨zeroS_of a0, zeroS_of a1, zeroS_of a2, zeroS_of a3, zeroS_of a4, g1, g2, .inr (.inl ⟨h3, nil b1⟩)⟩
      · rw [if_neg h3] at he
        obtain ⟨⟨a0, a1, a2, a3, a4⟩, g1, g2, b1, b2, b3, b4, b5, b6⟩ := emptyB_of he
        exact ⟨zeroS_of a0, zeroS_of a1, zeroS_of a2, zeroS_of a3, zeroS_of a4, g1, g2, .inr (.inr ⟨by omega, nil b1, b4, b5, b6⟩)⟩
def bodyB (p : PD) : ByteArray :=
  if p.kind = 1 then (setB p.s0 ++ (setB p.s1 ++ (setB p.s2 ++ (setB p.s3 ++ setB p.s4)))) ++ (p.log ++ (numB p.org.size 2 ++ p.org))
  else if p.kind = 2 then tgsBytes p.T
  else if p.kind = 3 then numB p.of 2 ++ (p.hash ++ ((numB p.pO.size 2 ++ p.pO) ++ (numB p.pS 2 ++ p.pR)))
  else numB p.of 2 ++ p.hash
def bytesP (p : PD) : ByteArray := (numB p.kind 1 ++ (numB p.ver 2 ++ numB p.exp 8)) ++ bodyB p

/-! laid without a fault -/
theorem wNum_ok (b : ByteArray) (x : Int) (n : Nat) (h : badN x n = false) : wNum (b, false) x n = (b ++ numB x n, false) := by unfold wNum; rw [if_neg (by rw [h]; decide)]
theorem num1_ok {x : Int} (h : 0 ≤ x) (h2 : x ≤ 255) : badN x 1 = false := badN_ok h (by rw [show ((256 ^ 1 : Nat) : Int) = 256 by decide]; omega)
theorem num2_ok {x : Int} (h : 0 ≤ x) (h2 : x ≤ 65535) : badN x 2 = false := badN_ok h (by rw [show ((256 ^ 2 : Nat) : Int) = 65536 by decide]; omega)
theorem num8_ok {x : Int} (h : 0 ≤ x) : badN x 8 = false := by unfold badN; rw [decide_eq_false (by omega)]; rfl
theorem pHash_ok (b s : ByteArray) (h : s.size = 32) : pHash (b, false) s = (b ++ s, false) := by unfold pHash; rw [decide_eq_false (by omega)]; rfl
theorem pText_ok (b s : ByteArray) (h : s.size ≤ 65535) : pText (b, false) s = (b ++ (numB s.size 2 ++ s), false) := by
  unfold pText
  rw [wNum_ok b _ 2 (num2_ok (by omega) (by omega))]
  dsimp only
  rw [ba_assoc]
theorem hdr_ok (d : DV) (h1 : 0 ≤ d.kind ∧ d.kind ≤ 255) (h2 : 0 ≤ d.ver ∧ d.ver ≤ 65535) (h3 : 0 ≤ d.exp) : hdr d = (numB d.kind 1 ++ (numB d.ver 2 ++ numB d.exp 8), false) := by
  unfold hdr
  rw [wNum_ok _ _ 1 (num1_ok h1.1 h1.2), wNum_ok _ _ 2 (num2_ok h2.1 h2.2), wNum_ok _ _ 8 (num8_ok h3), ba_assoc, ba_assoc, show (⟨#[]⟩ : ByteArray) ++ (numB d.kind 1 ++ (numB d.ver 2 ++ numB d.exp 8)) = _ from ByteArray.empty_append]
theorem foldT_ok : ∀ (L : List TgtT) (b : ByteArray), (∀ t ∈ L, TgFit t) → L.foldl lt3 (b, false) = (b ++ tgB L, false) := by
  refine snoc_ind (fun b _ => by show (b, false) = (b ++ (⟨#[]⟩ : ByteArray), false); rw [show b ++ (⟨#[]⟩ : ByteArray) = b from ByteArray.append_empty]) ?_
  intro L x ih b h
  obtain ⟨h1, h2, h3, h4, h5⟩ := h x (by simp)
  rw [List.foldl_append, ih b (fun t ht => h t (by simp [ht])), tgB_snoc]
  show lt3 _ x = _
  unfold lt3 lt2 lt1
  rw [wNum_ok _ _ 1 (num1_ok h1 h2), wNum_ok _ _ 2 (num2_ok h3 (by omega)), pHash_ok _ _ h5]
  unfold tgOne
  simp only [ba_assoc]
theorem foldI_ok : ∀ (L : List ByteArray) (b : ByteArray), (∀ t ∈ L, t.size = 32) → L.foldl pHash (b, false) = (b ++ idB L, false) := by
  refine snoc_ind (fun b _ => by show (b, false) = (b ++ (⟨#[]⟩ : ByteArray), false); rw [show b ++ (⟨#[]⟩ : ByteArray) = b from ByteArray.append_empty]) ?_
  intro L x ih b h
  rw [List.foldl_append, ih b (fun t ht => h t (by simp [ht])), idB_snoc]
  show pHash _ x = _
  rw [pHash_ok _ _ (h x (by simp)), ba_assoc]
theorem laySet_ok (S : SetT) (b : ByteArray) (h : setGood S = true) : layF (b, false) S = (b ++ setB S, false) := by
  obtain ⟨⟨g1, g2, g3, g4⟩, g5⟩ := setGood_ids h
  unfold layF laySetP
  rw [if_pos h, wNum_ok _ _ 1 (num1_ok (by omega) (by omega)), foldI_ok _ _ g5, wNum_ok _ _ 1 (num1_ok (by omega) (by omega))]
  unfold setB
  rw [show numB S.2 1 ++ (⟨#[]⟩ : ByteArray) = numB S.2 1 from ByteArray.append_empty]
  simp only [ba_assoc]
theorem tgsB_fit : ∀ (L : List TgtT) (last : Int), 0 ≤ last → tgsB last L = true → ∀ t ∈ L, TgFit t
  | [], _, _, _, t, ht => (List.not_mem_nil ht).elim
  | x :: r, last, h0, h, t, ht => by
    have h1 : (tgOk last x && tgsB x.1 r) = true := h
    rw [Bool.and_eq_true] at h1
    have h2 := of_decide_eq_true h1.1
    rcases List.mem_cons.1 ht with rfl | ht
    · exact ⟨by omega, by omega, by omega, by omega, h2.2.2.2.2⟩
    · exact tgsB_fit r x.1 (by omega) h1.2 t ht
theorem cpV_ok {o : ByteArray} {n : Int} {r : ByteArray} (h : (cpV o n r).2 = 0) : 1 ≤ o.size ∧ o.size ≤ 64 ∧ 0 ≤ n ∧ n ≤ 1024 ∧ r.size = 32 := by
  unfold cpV at h
  split at h
  · rename_i hg
    unfold cpGood origG at hg
    simp only [Bool.and_eq_true, decide_eq_true_eq] at hg
    obtain ⟨⟨⟨a, b⟩, c⟩, d, e, f⟩ := hg
    exact ⟨a, b, d, e, f⟩
  · cases h
/-- what a good document is laid as. -/
theorem lay_ok {p : PD} (h : chkP p = 0) : layK p (hdr (D0 p)) = (bytesP p, false) := by
  obtain ⟨hk, hv, hx, hg, -⟩ := chkP0 h
  have hh := hdr_ok (D0 p) (show 0 ≤ p.kind ∧ p.kind ≤ 255 from ⟨by omega, by omega⟩) (show 0 ≤ p.ver ∧ p.ver ≤ 65535 from ⟨by omega, hv.2⟩) hx.1
  rw [hh]
  unfold bytesP bodyB layK
  unfold goodP at hg
  show _ = ((numB (D0 p).kind 1 ++ (numB (D0 p).ver 2 ++ numB (D0 p).exp 8)) ++ _, false)
  generalize numB (D0 p).kind 1 ++ (numB (D0 p).ver 2 ++ numB (D0 p).exp 8) = b
  by_cases h1 : p.kind = 1
  · rw [if_pos h1] at hg
    rw [if_pos h1, if_pos h1]
    unfold rootGood at hg
    rw [Bool.and_eq_true] at hg
    obtain ⟨c1, c2, -, -, c3⟩ := cpV_ok (of_decide_eq_true hg.1)
    have hS : ∀ S ∈ p.S, setGood S = true := List.all_eq_true.1 hg.2
    unfold PD.S at hS ⊢
    unfold lay1
    rw [List.foldl_cons, laySet_ok _ _ (hS _ (by simp)), List.foldl_cons, laySet_ok _ _ (hS _ (by simp)), List.foldl_cons, laySet_ok _ _ (hS _ (by simp)), List.foldl_cons, laySet_ok _ _ (hS _ (by simp)), List.foldl_cons, laySet_ok _ _ (hS _ (by simp)), List.foldl_nil]
    rw [pHash_ok _ _ c3, pText_ok _ _ (by omega)]
    simp only [ba_assoc]
    rfl
  · rw [if_neg h1] at hg
    rw [if_neg h1, if_neg h1]
    by_cases h2 : p.kind = 2
    · rw [if_pos h2] at hg
      rw [if_pos h2, if_pos h2]
      unfold goodTg at hg
      rw [Bool.and_eq_true] at hg
      have hl := of_decide_eq_true hg.2
      unfold layTg tgsBytes
      rw [wNum_ok _ _ 1 (num1_ok (by omega) (by omega)), foldT_ok _ _ (tgsB_fit p.T 0 (by omega) hg.1), ba_assoc]
    · rw [if_neg h2] at hg
      rw [if_neg h2, if_neg h2]
      by_cases h3 : p.kind = 3
      · rw [if_pos h3] at hg
        rw [if_pos h3, if_pos h3]
        unfold snGood tsGood at hg
        simp only [Bool.and_eq_true, decide_eq_true_eq] at hg
        obtain ⟨c1, c2, c3, c4, c5⟩ := cpV_ok hg.1
        obtain ⟨-, ⟨o1, o2⟩, o3⟩ := hg
        unfold lay3 lay4
        rw [wNum_ok _ _ 2 (num2_ok (by omega) (by omega)), pHash_ok _ _ o3, pText_ok _ _ (by omega), wNum_ok _ _ 2 (num2_ok (by omega) (by omega)), pHash_ok _ _ c5]
        simp only [ba_assoc]
        rfl
      · rw [if_neg h3] at hg
        rw [if_neg h3, if_neg h3]
        unfold tsGood at hg
        simp only [Bool.and_eq_true, decide_eq_true_eq] at hg
        obtain ⟨⟨o1, o2⟩, o3⟩ := hg
        unfold lay4
        rw [wNum_ok _ _ 2 (show badN (D0 p).of 2 = false from num2_ok (show 0 ≤ p.of by omega) (show p.of ≤ 65535 by omega)), pHash_ok _ _ (show (D0 p).hash.size = 32 from o3), ba_assoc]
        rfl
theorem enc_ok {p : PD} (h : chkP p = 0) : encD p = (bytesP p, 0) := by
  unfold encD encP
  rw [if_pos h, lay_ok h]
  rfl
theorem enc_bad {p : PD} (h : chkP p ≠ 0) : encD p = (⟨#[]⟩, 1) ∧ chkP p = 1 := by
  have h1 : chkP p = 1 := by
    unfold chkP at h ⊢
    split
    · rename_i hk
      rw [if_pos hk] at h
      unfold chkE at h ⊢
      split
      · rename_i hb; rw [if_pos hb] at h; exact absurd rfl h
      · rfl
    · rfl
  refine ⟨?_, h1⟩
  unfold encD encP
  rw [if_neg h, h1]

/-! and read again -/
theorem rds_hdr (p : PD) (h1 : 0 ≤ p.kind ∧ p.kind ≤ 255) (h2 : 0 ≤ p.ver ∧ p.ver ≤ 65535) (h3 : 0 ≤ p.exp ∧ p.exp ≤ 1099511627776) :
    Rds (fun r => (((rNum r 1).1, (rNum (rNum r 1).2 2).1, (rEight (rNum (rNum r 1).2 2).2).1), (rEight (rNum (rNum r 1).2 2).2).2)) (numB p.kind 1 ++ (numB p.ver 2 ++ numB p.exp 8)) (p.kind, p.ver, p.exp) := by
  have a := rds_num p.kind 1 (num1_ok h1.1 h1.2) (by decide) (by omega)
  have b := rds_num p.ver 2 (num2_ok h2.1 h2.2) (by decide) (by omega)
  have c := rds_8 p.exp h3.1 (by omega)
  have bc := Rds.seq (g := fun _ r => rEight r) (fun x y => (x, y)) b c (fun _ => kps_8)
  exact Rds.seq (g := fun _ r => (((rNum r ((2 : Nat) : Int)).1, (rEight (rNum r ((2 : Nat) : Int)).2).1), (rEight (rNum r ((2 : Nat) : Int)).2).2)) (fun x y => (x, y)) a bc (fun _ => Kps.seq (g := fun _ r => rEight r) (fun x y => (x, y)) (kps_num _) (fun _ => kps_8))
theorem rds_takeRN : ∀ L : List SetT, (∀ S ∈ L, setGood S = true) → Rds (fun r => takeRN r L.length) (L.foldl (fun b S => b ++ setB S) ⟨#[]⟩) L := by
  refine snoc_ind (fun _ => ⟨fun t => by show (([] : List SetT), ((⟨#[]⟩ : ByteArray) ++ t, (0 : Int))) = _; rw [show (⟨#[]⟩ : ByteArray) ++ t = t from ByteArray.empty_append], fun k hk => absurd hk (Nat.not_lt_zero _)⟩) ?_
  intro L x ih h
  rw [List.foldl_append, List.length_append]
  exact Rds.seq (g := fun _ r => takeSetP r) (fun l y => l ++ [y]) (ih (fun t ht => h t (by simp [ht]))) (rds_takeSet x (h x (by simp))) (fun _ => kps_takeSet)
theorem kps_takeRN : ∀ k, Kps (fun r => takeRN r k)
  | 0 => fun r h => h
  | k + 1 => fun r h => kps_takeSet _ (kps_takeRN k r h)
theorem kps_rt3 : Kps rt3 := fun r h => by
  have h5 := kps_takeRN 5 r h
  dsimp only at h5
  unfold rt3 rt2
  generalize takeRN r 5 = A at h5 ⊢
  have h6 := kps_raw 32 A.2 h5
  dsimp only at h6
  generalize rRaw A.2 32 = B at h6 ⊢
  exact kps_txt 64 B.2 h6
theorem kps_ts2 : Kps ts2 := fun r h => by
  have h5 := kps_num 2 r h
  dsimp only at h5
  unfold ts2 ts1
  generalize rNum r 2 = A at h5 ⊢
  exact kps_raw 32 A.2 h5
theorem kps_sn3 : Kps sn3 := fun r h => by
  have h5 := kps_ts2 r h
  unfold sn3 sn2 sn1
  generalize ts2 r = A at h5 ⊢
  have h6 := kps_txt 64 A.2 h5
  dsimp only at h6
  generalize rTxt A.2 64 = B at h6 ⊢
  have h7 := kps_num 2 B.2 h6
  dsimp only at h7
  generalize rNum B.2 2 = C at h7 ⊢
  exact kps_raw 32 C.2 h7
theorem kps_body (p : PD) : Kps (bodyP p) := by
  intro r h
  have a := kps_rt3 r h
  have b := kps_takeTg r h
  have c := kps_sn3 r h
  have d := kps_ts2 r h
  unfold bodyP
  generalize rt3 r = A at a ⊢
  generalize takeTg r = B at b ⊢
  generalize sn3 r = C at c ⊢
  generalize ts2 r = D at d ⊢
  by_cases h1 : p.kind = 1
  · rw [if_pos h1]; exact a
  · rw [if_neg h1]
    by_cases h2 : p.kind = 2
    · rw [if_pos h2]; exact b
    · rw [if_neg h2]
      by_cases h3 : p.kind = 3
      · rw [if_pos h3]; exact c
      · rw [if_neg h3]
        by_cases h4 : p.kind = 4
        · rw [if_pos h4]; exact d
        · rw [if_neg h4]; exact h
section
variable {α β : Type}
theorem Rds.pair {f : RS → α × RS} {h : RS → β × RS} {p q : ByteArray} {v : α} {u : β} (h1 : Rds f p v) (h2 : Rds h q u) (k2 : Kps h) : Rds (fun r => (((f r).1, (h (f r).2).1), (h (f r).2).2)) (p ++ q) (v, u) :=
  Rds.seq (g := fun _ => h) Prod.mk h1 h2 (fun _ => k2)
theorem Kps.pair {f : RS → α × RS} {h : RS → β × RS} (h1 : Kps f) (k2 : Kps h) : Kps (fun r => (((f r).1, (h (f r).2).1), (h (f r).2).2)) := fun r hr => k2 _ (h1 r hr)
theorem Rds.map {f : RS → α × RS} {p : ByteArray} {v : α} (h : Rds f p v) (F : α → β) : Rds (fun r => (F (f r).1, (f r).2)) p (F v) :=
  ⟨fun t => by dsimp only; rw [h.1], fun k hk => h.2 k hk⟩
end
theorem rds_root (L : List SetT) (lg og : ByteArray) (hl : L.length = 5) (hS : ∀ S ∈ L, setGood S = true) (h1 : lg.size = 32) (h2 : og.size ≤ 64) :
    Rds (fun r => (((takeRN r 5).1, (rt2 r).1, (rt3 r).1), (rt3 r).2)) ((L.foldl (fun b S => b ++ setB S) ⟨#[]⟩) ++ (lg ++ (numB og.size 2 ++ og))) (L, lg, og) := by
  have a := rds_takeRN L hS
  rw [hl] at a
  have b := rds_raw lg 32 (by omega)
  have c := rds_txt og 64 (by omega) (by omega)
  have abc := Rds.pair a (Rds.pair b c (kps_txt 64)) (Kps.pair (kps_raw 32) (kps_txt 64))
  try dsimp only at abc
  unfold rt3 rt2
  exact abc
theorem rds_ts (of : Int) (hs : ByteArray) (h1 : 1 ≤ of ∧ of ≤ 65535) (h2 : hs.size = 32) : Rds (fun r => (((ts1 r).1, (ts2 r).1), (ts2 r).2)) (numB of 2 ++ hs) (of, hs) := by
  have a := rds_num of 2 (num2_ok (by omega) h1.2) (by decide) (by omega)
  have b := rds_raw hs 32 (by omega)
  have ab := Rds.pair a b (kps_raw 32)
  try dsimp only at ab
  unfold ts2 ts1
  exact ab
theorem rds_sn (of : Int) (hs pO pR : ByteArray) (pS : Int) (h1 : 1 ≤ of ∧ of ≤ 65535) (h2 : hs.size = 32) (h3 : pO.size ≤ 64) (h4 : 0 ≤ pS ∧ pS ≤ 1024) (h5 : pR.size = 32) :
    Rds (fun r => (((ts1 r).1, (ts2 r).1, (sn1 r).1, (sn2 r).1, (sn3 r).1), (sn3 r).2)) (numB of 2 ++ (hs ++ ((numB pO.size 2 ++ pO) ++ (numB pS 2 ++ pR)))) (of, hs, pO, pS, pR) := by
  have a := rds_num of 2 (num2_ok (by omega) h1.2) (by decide) (by omega)
  have b := rds_raw hs 32 (by omega)
  have c := rds_txt pO 64 (by omega) (by omega)
  have d := rds_num pS 2 (num2_ok h4.1 (by omega)) (by decide) (by omega)
  have e := rds_raw pR 32 (by omega)
  have kde := Kps.pair (kps_num ((2 : Nat) : Int)) (kps_raw 32)
  have kcde := Kps.pair (kps_txt 64) kde
  have kbcde := Kps.pair (kps_raw 32) kcde
  have abcde := Rds.pair a (Rds.pair b (Rds.pair c (Rds.pair d e (kps_raw 32)) kde) kcde) kbcde
  try dsimp only at abcde
  unfold sn3 sn2 sn1 ts2 ts1
  exact abcde
def hdOf (p : PD) : PD := { pz with kind := p.kind, ver := p.ver, exp := p.exp }
theorem rds_body {p : PD} (h : chkP p = 0) : Rds (bodyP (hdOf p)) (bodyB p) p := by
  obtain ⟨hk, hv, hx, hg, -⟩ := chkP0 h
  have hf := chk_form h
  unfold bodyB
  unfold goodP at hg
  clear h
  rcases hf with ⟨k1, e1, e2, e3, e4, e5, e6⟩ | ⟨hk1, e0, e1, e2, e3, e4, e5, e6, hf⟩
  · rw [if_pos k1] at hg ⊢
    unfold rootGood at hg
    rw [Bool.and_eq_true] at hg
    obtain ⟨c1, c2, -, -, c3⟩ := cpV_ok (of_decide_eq_true hg.1)
    have hS : ∀ S ∈ p.S, setGood S = true := List.all_eq_true.1 hg.2
    have a := Rds.map (rds_root p.S p.log p.org rfl hS c3 c2) (fun x => ({ hdOf p with s0 := nthS x.1 0, s1 := nthS x.1 1, s2 := nthS x.1 2, s3 := nthS x.1 3, s4 := nthS x.1 4, log := x.2.1, org := x.2.2 } : PD))
    have e : (p.S.foldl (fun b S => b ++ setB S) ⟨#[]⟩) = setB p.s0 ++ (setB p.s1 ++ (setB p.s2 ++ (setB p.s3 ++ setB p.s4))) := by
      unfold PD.S
      simp only [List.foldl_cons, List.foldl_nil, ba_assoc]
      exact ByteArray.empty_append
    rw [e] at a
    have ev : ({ hdOf p with s0 := nthS p.S 0, s1 := nthS p.S 1, s2 := nthS p.S 2, s3 := nthS p.S 3, s4 := nthS p.S 4, log := p.log, org := p.org } : PD) = p := by
      obtain ⟨kd, ve, ex, s0, s1, s2, s3, s4, lg, og, T, pO, pS, pR, of, hs⟩ := p
      dsimp only at e1 e2 e3 e4 e5 e6
      subst e1 e2 e3 e4 e5 e6
      rfl
    dsimp only at a
    rw [ev] at a
    have ef : bodyP (hdOf p) = fun r => (({ hdOf p with s0 := nthS (takeRN r 5).1 0, s1 := nthS (takeRN r 5).1 1, s2 := nthS (takeRN r 5).1 2, s3 := nthS (takeRN r 5).1 3, s4 := nthS (takeRN r 5).1 4, log := (rt2 r).1, org := (rt3 r).1 } : PD), (rt3 r).2) := by
      funext r
      unfold bodyP
      rw [if_pos (show (hdOf p).kind = 1 from k1)]
    rw [ef]
    exact a
  · rw [if_neg hk1] at hg ⊢
    rcases hf with ⟨k2, g2, g3, g4, g5, g6⟩ | ⟨k3, g2⟩ | ⟨k4, g2, g3, g4, g5⟩
    · rw [if_pos k2] at hg ⊢
      unfold goodTg at hg
      rw [Bool.and_eq_true] at hg
      have hl : p.T.length ≤ 64 := of_decide_eq_true hg.2
      have a := Rds.map (rds_takeTg p.T (by omega) (tgsB_fit p.T 0 (by omega) hg.1)) (fun x => ({ hdOf p with T := x } : PD))
      have ev : ({ hdOf p with T := p.T } : PD) = p := by
        obtain ⟨kd, ve, ex, s0, s1, s2, s3, s4, lg, og, T, pO, pS, pR, of, hs⟩ := p
        dsimp only at e0 e1 e2 e3 e4 e5 e6 g2 g3 g4 g5 g6
        subst e0 e1 e2 e3 e4 e5 e6 g2 g3 g4 g5 g6
        rfl
      rw [ev] at a
      have ef : bodyP (hdOf p) = fun r => (({ hdOf p with T := (takeTg r).1 } : PD), (takeTg r).2) := by
        funext r
        unfold bodyP
        rw [if_neg (show ¬ (hdOf p).kind = 1 from hk1), if_pos (show (hdOf p).kind = 2 from k2)]
      rw [ef]
      exact a
    · have k2 : ¬ p.kind = 2 := by omega
      rw [if_neg k2, if_pos k3] at hg ⊢
      unfold snGood tsGood at hg
      simp only [Bool.and_eq_true, decide_eq_true_eq] at hg
      obtain ⟨c1, c2, c3, c4, c5⟩ := cpV_ok hg.1
      obtain ⟨-, o1, o3⟩ := hg
      have a := Rds.map (rds_sn p.of p.hash p.pO p.pR p.pS o1 o3 c2 ⟨c3, c4⟩ c5) (fun x => ({ hdOf p with of := x.1, hash := x.2.1, pO := x.2.2.1, pS := x.2.2.2.1, pR := x.2.2.2.2 } : PD))
      have ev : ({ hdOf p with of := p.of, hash := p.hash, pO := p.pO, pS := p.pS, pR := p.pR } : PD) = p := by
        obtain ⟨kd, ve, ex, s0, s1, s2, s3, s4, lg, og, T, pO, pS, pR, of, hs⟩ := p
        dsimp only at e0 e1 e2 e3 e4 e5 e6 g2
        subst e0 e1 e2 e3 e4 e5 e6 g2
        rfl
      dsimp only at a
      rw [ev] at a
      have ef : bodyP (hdOf p) = fun r => (({ hdOf p with of := (ts1 r).1, hash := (ts2 r).1, pO := (sn1 r).1, pS := (sn2 r).1, pR := (sn3 r).1 } : PD), (sn3 r).2) := by
        funext r
        unfold bodyP
        rw [if_neg (show ¬ (hdOf p).kind = 1 from hk1), if_neg (show ¬ (hdOf p).kind = 2 from k2), if_pos (show (hdOf p).kind = 3 from k3)]
      rw [ef]
      exact a
    · have k2 : ¬ p.kind = 2 := by omega
      have k3 : ¬ p.kind = 3 := by omega
      rw [if_neg k2, if_neg k3] at hg ⊢
      unfold tsGood at hg
      simp only [Bool.and_eq_true, decide_eq_true_eq] at hg
      have a := Rds.map (rds_ts p.of p.hash hg.1 hg.2) (fun x => ({ hdOf p with of := x.1, hash := x.2 } : PD))
      have ev : ({ hdOf p with of := p.of, hash := p.hash } : PD) = p := by
        obtain ⟨kd, ve, ex, s0, s1, s2, s3, s4, lg, og, T, pO, pS, pR, of, hs⟩ := p
        dsimp only at e0 e1 e2 e3 e4 e5 e6 g2 g3 g4 g5
        subst e0 e1 e2 e3 e4 e5 e6 g2 g3 g4 g5
        rfl
      dsimp only at a
      rw [ev] at a
      have ef : bodyP (hdOf p) = fun r => (({ hdOf p with of := (ts1 r).1, hash := (ts2 r).1 } : PD), (ts2 r).2) := by
        funext r
        unfold bodyP
        rw [if_neg (show ¬ (hdOf p).kind = 1 from hk1), if_neg (show ¬ (hdOf p).kind = 2 from k2), if_neg (show ¬ (hdOf p).kind = 3 from k3), if_pos (show (hdOf p).kind = 4 from k4)]
      rw [ef]
      exact a
def hd3 (h : Int × Int × Int) : PD := { pz with kind := h.1, ver := h.2.1, exp := h.2.2 }
theorem rds_dec {p : PD} (h : chkP p = 0) : (∀ t, decB (bytesP p ++ t) = (p, (t, 0))) ∧ ∀ k, k < (bytesP p).size → (decB ((bytesP p).extract 0 k)).2.2 ≠ 0 := by
  obtain ⟨hk, hv, hx, -, -⟩ := chkP0 h
  have a := rds_hdr p ⟨by omega, by omega⟩ ⟨by omega, hv.2⟩ hx
  have b : Rds (bodyP (hd3 (p.kind, p.ver, p.exp))) (bodyB p) p := rds_body h
  have ab := Rds.then (g := fun h r => bodyP (hd3 h) r) a b (fun _ => kps_body _)
  have e : ∀ s, decB s = (fun r => bodyP (hd3 ((fun r => (((rNum r 1).1, (rNum (rNum r 1).2 2).1, (rEight (rNum (rNum r 1).2 2).2).1), (rEight (rNum (rNum r 1).2 2).2).2)) r).1) ((fun r => (((rNum r 1).1, (rNum (rNum r 1).2 2).1, (rEight (rNum (rNum r 1).2 2).2).1), (rEight (rNum (rNum r 1).2 2).2).2)) r).2) (s, 0) := fun s => rfl
  exact ⟨fun t => by rw [e]; exact ab.1 t, fun k hk => by rw [e]; exact ab.2 k hk⟩
theorem rEnd_keep {r : RS} (h : r.2 ≠ 0) : (rEnd r).2 ≠ 0 := by
  unfold rEnd
  split
  · unfold rFail; rw [if_neg h]; exact h
  · exact h
theorem dec_back {p : PD} (h : chkP p = 0) : decD (bytesP p) = (p, 0) := by
  have h1 := (rds_dec h).1 ⟨#[]⟩
  rw [show bytesP p ++ (⟨#[]⟩ : ByteArray) = bytesP p from ByteArray.append_empty] at h1
  unfold decD
  rw [h1]
  dsimp only
  rw [rEnd_nil, if_neg (by rintro (h2 | h2); exact h2 rfl; exact h2 h)]
theorem dec_more {p : PD} (h : chkP p = 0) (t : ByteArray) (ht : 0 < t.size) : decD (bytesP p ++ t) = (pz, 3) := by
  have h1 := (rds_dec h).1 t
  unfold decD
  rw [h1]
  dsimp only
  rw [if_pos (.inl (by unfold rEnd; rw [if_pos ht]; unfold rFail; rw [if_pos rfl]; exact (by decide : (3 : Int) ≠ 0)))]
theorem dec_cut {p : PD} (h : chkP p = 0) (k : Nat) (hk : k < (bytesP p).size) : decD ((bytesP p).extract 0 k) = (pz, 3) := by
  unfold decD
  rw [if_pos (.inl (rEnd_keep ((rds_dec h).2 k hk)))]
theorem bytesP_size (p : PD) : 11 ≤ (bytesP p).size := by
  unfold bytesP
  rw [ByteArray.size_append, ByteArray.size_append, ByteArray.size_append, numB_size, numB_size, numB_size]
  omega
end Go.Proofs.YtmejjphliaiamaaGreatDoor
