import Derived.Test.YtmejjphliaiamaaGreatDoorMfQ
import Derived.Test.YtmejjphliaiamaaGreatDoorMfD
import Derived.Test.YtmejjphliaiamaaGreatDoorMeL
set_option linter.unusedVariables false
set_option linter.unusedSimpArgs false
namespace Go.Proofs.YtmejjphliaiamaaGreatDoor
open Go Go.RowKit Go.Lib Go.Sort

/-! ### documents of any kind, in memory -/
def DocM (w : World) (d : DV) (p : PD) : Prop := ∃ a c, d = dvP p a c ∧ (∀ k S, p.S[k]? = some S → TxM w (a k) S.1) ∧ TgM w (a 5) p.T
theorem DocM.below {w w' : World} {d : DV} {p : PD} (h : DocM w d p) (k : Below w.heap.size w w') : DocM w' d p := by
  obtain ⟨a, c, e, h1, h2⟩ := h
  exact ⟨a, c, e, fun j S hj => (h1 j S hj).below k, h2.below k⟩
structure CFit (p : PD) : Prop where
  log : p.log.size ≤ 1000000000
  org : p.org.size ≤ 1000000000
  pO : p.pO.size ≤ 1000000000
  pR : p.pR.size ≤ 1000000000
  S : ∀ S ∈ p.S, S.1.length ≤ 100000000
  T : p.T.length ≤ 100000000
theorem setL_dvP (p : PD) (a : Nat → Option Addr) (c : Nat → Nat) (k : Nat) (s : SV) (S : SetT) (hs : (setL (dvP p a c))[k]? = some s) (hS : p.S[k]? = some S) : s = ⟨a k, S.1.length, c k, S.2⟩ ∧ k < 5 := by
  have hk : k < 5 := (List.getElem?_eq_some_iff.1 hS).1
  refine ⟨?_, hk⟩
  match k, hk with
  | 0, _ => obtain rfl := Option.some.inj (show some p.s0 = some S from hS); exact (Option.some.inj (show some (⟨a 0, p.s0.1.length, c 0, p.s0.2⟩ : SV) = some s from hs)).symm
  | 1, _ => obtain rfl := Option.some.inj (show some p.s1 = some S from hS); exact (Option.some.inj (show some (⟨a 1, p.s1.1.length, c 1, p.s1.2⟩ : SV) = some s from hs)).symm
  | 2, _ => obtain rfl := Option.some.inj (show some p.s2 = some S from hS); exact (Option.some.inj (show some (⟨a 2, p.s2.1.length, c 2, p.s2.2⟩ : SV) = some s from hs)).symm
  | 3, _ => obtain rfl := Option.some.inj (show some p.s3 = some S from hS); exact (Option.some.inj (show some (⟨a 3, p.s3.1.length, c 3, p.s3.2⟩ : SV) = some s from hs)).symm
  | 4, _ => obtain rfl := Option.some.inj (show some p.s4 = some S from hS); exact (Option.some.inj (show some (⟨a 4, p.s4.1.length, c 4, p.s4.2⟩ : SV) = some s from hs)).symm
theorem sets_of {w : World} {p : PD} {a : Nat → Option Addr} {c : Nat → Nat} (h : ∀ k S, p.S[k]? = some S → TxM w (a k) S.1) (hf : CFit p) : SetsM w (dvP p a c) p.S := by
  refine ⟨rfl, fun k s S hs hS => ?_⟩
  obtain ⟨rfl, hk⟩ := setL_dvP p a c k s S hs hS
  exact ⟨⟨rfl, rfl, h k S hS⟩, hf.S S (List.mem_of_getElem? hS)⟩
theorem chkB_dvP (p : PD) (a : Nat → Option Addr) (c : Nat → Nat) (g : Bool) : chkB (D0 p) (zeroK p.kind (D0 p)) g = chkB (dvP p a c) (zeroK p.kind (dvP p a c)) g := by
  have e : emptyB (zeroK p.kind (D0 p)) = emptyB (zeroK p.kind (dvP p a c)) := by
    unfold zeroK
    by_cases h1 : p.kind = 1
    · rw [if_pos h1, if_pos h1]; rfl
    · rw [if_neg h1, if_neg h1]
      by_cases h2 : p.kind = 2
      · rw [if_pos h2, if_pos h2]; rfl
      · rw [if_neg h2, if_neg h2]
        by_cases h3 : p.kind = 3
        · rw [if_pos h3, if_pos h3]; rfl
        · rw [if_neg h3, if_neg h3]; rfl
  unfold chkB
  rw [e]
  rfl
theorem chkP_kind {p : PD} (hk : 1 ≤ p.kind ∧ p.kind ≤ 4) (a : Nat → Option Addr) (c : Nat → Nat) {d2 : DV} {g : Bool} (hz : zeroK p.kind (dvP p a c) = d2) (hg : goodP p = g) : chkP p = chkE (chkB (dvP p a c) d2 g) := by
  unfold chkP
  rw [if_pos hk, chkB_dvP p a c, hz, hg]
theorem check_all (p : PD) (d : DV) (w : World) (h : DocM w d p) (hf : CFit p) (hV : VarsP w) : Calls Tryz.prog 10 #[docV d] w fun e w' => e = .returned (.int .i64 (chkP p)) ∧ Below w.heap.size w w' := by
  obtain ⟨a, c, rfl, hS, hT⟩ := h
  by_cases hk : 1 ≤ p.kind ∧ p.kind ≤ 4
  · by_cases h1 : p.kind = 1
    · rw [chkP_kind hk a c (d2 := d1Z (dvP p a c)) (g := rootGood (dvP p a c) p.S) (by unfold zeroK; rw [if_pos h1]) (by unfold goodP; rw [if_pos h1]; rfl)]
      exact check_form 92 93 94 95 (dvP p a c) _ _ w enter_rg enter_rz (by show FormC p.kind _ _ _ _; rw [h1]; exact forms1)
        (fun W b hb hd => goodrt_any b (dvP p a c) p.S W hd ((sets_of hS hf).below hb) (Nat.le_trans hf.org (by decide)) (Nat.le_trans hf.log (by decide)) (hV.below hb)) (fun W b _ h => zero1_any b _ W h)
    · by_cases h2 : p.kind = 2
      · rw [chkP_kind hk a c (d2 := { dvP p a c with lad := none, ln := 0, lc := 0 }) (g := goodTg p.T) (by unfold zeroK; rw [if_neg h1, if_pos h2]) (by unfold goodP; rw [if_neg h1, if_pos h2])]
        exact check_form 96 97 98 99 (dvP p a c) _ _ w enter_gg enter_gz (by show FormC p.kind _ _ _ _; rw [h2]; exact forms2)
          (fun W b hb hd => goodtg_any b (dvP p a c) p.T W hd rfl (hT.below hb) hf.T) (fun W b _ h => zero2_any b _ W h)
      · by_cases h3 : p.kind = 3
        · rw [chkP_kind hk a c (d2 := d3Z (dvP p a c)) (g := snGood (dvP p a c)) (by unfold zeroK; rw [if_neg h1, if_neg h2, if_pos h3]) (by unfold goodP; rw [if_neg h1, if_neg h2, if_pos h3]; rfl)]
          exact check_form 100 101 102 103 (dvP p a c) _ _ w enter_sg enter_sz (by show FormC p.kind _ _ _ _; rw [h3]; exact forms3)
            (fun W b hb hd => goodsn_any b (dvP p a c) W hd (Nat.le_trans hf.pO (by decide)) (Nat.le_trans hf.pR (by decide)) (hV.below hb)) (fun W b _ h => zero3_any b _ W h)
        · have h4 : p.kind = 4 := by omega
          rw [chkP_kind hk a c (d2 := { dvP p a c with of := 0, hash := ⟨#[]⟩ }) (g := tsGood p.of p.hash) (by unfold zeroK; rw [if_neg h1, if_neg h2, if_neg h3]) (by unfold goodP; rw [if_neg h1, if_neg h2, if_neg h3])]
          exact check4 (dvP p a c) w h4
  · have e : chkP p = 1 := by unfold chkP; rw [if_neg hk]
    rw [e]
    exact check_none (dvP p a c) w hk
/-- a document whose bytes can be told. -/
structure EFit (p : PD) : Prop where
  c : CFit p
  hash : p.hash.size ≤ 1000000000
  ver : I64 p.ver
  exp : I64 p.exp
  kind : I64 p.kind
  of : I64 p.of
  pS : I64 p.pS
  S : ∀ S ∈ p.S, S.1.length ≤ 100000000 ∧ txZ S.1 ≤ 100000000 ∧ I64 S.2
  Tl : p.T.length ≤ 1000000
  Tz : tgZ p.T ≤ 1000000000
  T : ∀ t ∈ p.T, I64 t.1 ∧ I64 t.2.1
theorem encode_all (p : PD) (d : DV) (w : World) (h : DocM w d p) (hf : EFit p) (hV : VarsP w) : Calls Tryz.prog 9 #[docV d] w fun e w' => e = .returned (.tuple #[.string (encD p).1, .int .i64 (encD p).2]) ∧ Below w.heap.size w w' := by
  have hc : ∀ W, Below w.heap.size w W → Calls Tryz.prog 10 #[docV d] W fun e w' => e = .returned (.int .i64 (chkP p)) ∧ Below W.heap.size W w' := fun W hb => check_all p d W (h.below hb) hf.c (hV.below hb)
  obtain ⟨a, c, rfl, hS, hT⟩ := h
  have e0 : encD p = encP (dvP p a c) (chkP p) (layK p) := rfl
  rw [e0]
  by_cases hk : 1 ≤ p.kind ∧ p.kind ≤ 4
  · by_cases h1 : p.kind = 1
    · have el : layK p = lay1 (dvP p a c) p.S := by unfold layK; rw [if_pos h1]; rfl
      rw [el]
      exact encode_form 92 93 94 95 (dvP p a c) (chkP p) _ w enter_rl (by show FormC p.kind _ _ _ _; rw [h1]; exact forms1) hc
        (layrt_any (dvP p a c) p.S w (sets_of hS hf.c) hf.S hf.c.log hf.c.org) hf.kind hf.ver hf.exp
    · by_cases h2 : p.kind = 2
      · have el : layK p = layTg p.T := by unfold layK; rw [if_neg h1, if_pos h2]
        rw [el]
        exact encode_form 96 97 98 99 (dvP p a c) (chkP p) _ w enter_gl (by show FormC p.kind _ _ _ _; rw [h2]; exact forms2) hc
          (laytg_any (dvP p a c) p.T w rfl hT hf.Tl hf.Tz hf.T) hf.kind hf.ver hf.exp
      · by_cases h3 : p.kind = 3
        · have el : layK p = lay3 (dvP p a c) := by unfold layK; rw [if_neg h1, if_neg h2, if_pos h3]; rfl
          rw [el]
          exact encode_form 100 101 102 103 (dvP p a c) (chkP p) _ w enter_sl (by show FormC p.kind _ _ _ _; rw [h3]; exact forms3) hc
            (laysn_any (dvP p a c) w hf.of hf.hash hf.pS hf.c.pO hf.c.pR) hf.kind hf.ver hf.exp
        · have h4 : p.kind = 4 := by omega
          have el : layK p = lay4 (dvP p a c) := by unfold layK; rw [if_neg h1, if_neg h2, if_neg h3]; rfl
          rw [el]
          exact encode_form 104 105 106 107 (dvP p a c) (chkP p) _ w enter_tl (by show FormC p.kind _ _ _ _; rw [h4]; exact forms4) hc
            (layts_any (dvP p a c) w hf.of hf.hash) hf.kind hf.ver hf.exp
  · have e : chkP p = 1 := by unfold chkP; rw [if_neg hk]
    rw [e]
    exact encode_none (dvP p a c) w hk

/-! a document that a call owns -/
def DocOwn (w : World) (base : Nat) (d : DV) (p : PD) : Prop :=
  ∃ a c, d = dvP p a c ∧ (∀ k S, p.S[k]? = some S → OwnS w base (.slice (a k) S.1.length (c k)) S.1) ∧ OwnT w base (.slice (a 5) p.T.length (c 5)) p.T
theorem DocOwn.kp {Sx : Nat → Prop} {w w' : World} {base : Nat} {d : DV} {p : PD} (h : DocOwn w base d p) (k : Kp Sx w w') (hS : ∀ g, base ≤ g → ¬ Sx g) : DocOwn w' base d p := by
  obtain ⟨a, c, e, h1, h2⟩ := h
  exact ⟨a, c, e, fun j S hj => OwnL.kp (h1 j S hj) k (fun g hg => hS g (OwnL.lt (h1 j S hj) g hg).1), OwnL.kp h2 k (fun g hg => hS g (OwnL.lt h2 g hg).1)⟩
theorem DocOwn.base {w : World} {base base' : Nat} {d : DV} {p : PD} (h : DocOwn w base d p) (hb : base' ≤ base) : DocOwn w base' d p := by
  obtain ⟨a, c, e, h1, h2⟩ := h
  exact ⟨a, c, e, fun j S hj => OwnL.base (h1 j S hj) (fun g hg => Nat.le_trans hb (OwnL.lt (h1 j S hj) g hg).1), OwnL.base h2 (fun g hg => Nat.le_trans hb (OwnL.lt h2 g hg).1)⟩
theorem DocOwn.below {w w' : World} {base : Nat} {d : DV} {p : PD} (h : DocOwn w base d p) (k : Below w.heap.size w w') : DocOwn w' base d p :=
  h.kp (Sx := fun _ => False) (Kp.of_below k) (fun _ _ h => h)
theorem DocOwn.m {w : World} {base : Nat} {d : DV} {p : PD} (h : DocOwn w base d p) : DocM w d p := by
  obtain ⟨a, c, e, h1, h2⟩ := h
  refine ⟨a, c, e, fun j S hj => ?_, ?_⟩
  · obtain ⟨ad, cp, hv, ht⟩ := OwnS.txm (h1 j S hj)
    cases hv
    exact ht
  · obtain ⟨ad, cp, hv, ht⟩ := OwnT.tgm h2
    cases hv
    exact ht
theorem own_none {w : World} {base : Nat} {p : PD} (h0 : p.s0 = ([], 0)) (h1 : p.s1 = ([], 0)) (h2 : p.s2 = ([], 0)) (h3 : p.s3 = ([], 0)) (h4 : p.s4 = ([], 0)) (a : Nat → Option Addr) (c : Nat → Nat) (ha : ∀ k, k < 5 → a k = none ∧ c k = 0) :
    ∀ k S, p.S[k]? = some S → OwnS w base (.slice (a k) S.1.length (c k)) S.1 := by
  intro k S hS
  have hk : k < 5 := (List.getElem?_eq_some_iff.1 hS).1
  have hm := List.mem_of_getElem? hS
  unfold PD.S at hm
  rw [h0, h1, h2, h3, h4] at hm
  simp only [List.mem_cons, List.not_mem_nil, or_false, or_self] at hm
  subst hm
  rw [(ha k hk).1, (ha k hk).2]
  exact ownL_nil _ _
theorem doc_none {w : World} {base : Nat} : DocOwn w base dz pz :=
  ⟨fun _ => none, fun _ => 0, rfl, own_none rfl rfl rfl rfl rfl _ _ (fun _ _ => ⟨rfl, rfl⟩), ownL_nil _ _⟩
theorem TakeC.imp {ft : Nat} {d0 : DV} {r3 r4 : RS} {P Q : DV → World → Prop} {w : World} (h : TakeC ft d0 r3 r4 P w) (hi : ∀ d W, P d W → Q d W) : TakeC ft d0 r3 r4 Q w :=
  fun W db rb h1 h2 h3 h4 h5 => (h W db rb h1 h2 h3 h4 h5).mono fun e w' ⟨e1, d', e2, e3⟩ => ⟨e1, d', hi d' w' e2, e3⟩

/-! ### documents of any kind, read -/
theorem rTxt_res1 (r : RS) (most : Int) : (rTxt r most).1.size ≤ r.1.size := by
  unfold rTxt
  split
  · exact Nat.zero_le _
  · exact Nat.le_trans (rRaw_size _ _).1 (rTxt2_size r most)
theorem takeSet_len (r : RS) : (takeSetP r).1.1.length ≤ 255 := by
  unfold takeSetP
  dsimp only
  split
  · obtain ⟨n, hn, h255⟩ := rNum1 r
    show (tsA r).1.length ≤ 255
    unfold tsA
    rw [hn, takeIN_len]
    exact h255
  · exact Nat.zero_le _
theorem takeRN_lens (r : RS) : ∀ k, ∀ S ∈ (takeRN r k).1, S.1.length ≤ 255
  | 0, S, h => by unfold takeRN at h; exact (List.not_mem_nil h).elim
  | k + 1, S, h => by
    unfold takeRN at h
    rcases List.mem_append.1 h with h | h
    · exact takeRN_lens r k S h
    · obtain rfl := List.mem_singleton.1 h
      exact takeSet_len _
theorem takeTg_len (r : RS) : (takeTg r).1.length ≤ 255 := by
  unfold takeTg
  obtain ⟨n, hn, h255⟩ := rNum1 r
  rw [hn, takeTN_len]
  exact h255
theorem rt_sizes (r : RS) : (rt2 r).1.size ≤ 32 ∧ (rt3 r).1.size ≤ r.1.size ∧ (rt3 r).2.1.size ≤ r.1.size := by
  have h5 := takeRN_size r 5
  unfold rt3 rt2
  generalize takeRN r 5 = A at h5 ⊢
  have h1 : (rRaw A.2 32).1.size ≤ 32 := rRaw_len A.2 32
  have h2 := (rRaw_size A.2 32).2
  generalize rRaw A.2 32 = B at h1 h2 ⊢
  have h3 := rTxt_res1 B.2 64
  have h4 := rTxt_sz B.2 64
  exact ⟨h1, by omega, by omega⟩
theorem sn_sizes1 (r : RS) : (sn1 r).1.size ≤ r.1.size ∧ (sn3 r).1.size ≤ 32 := by
  obtain ⟨z1, z2, z3, z4⟩ := sn_sizes r
  refine ⟨?_, ?_⟩
  · have := rTxt_res1 (ts2 r).2 64
    unfold sn1
    omega
  · exact rRaw_len _ 32
theorem takeTg_size (r : RS) : (takeTg r).2.1.size ≤ r.1.size := by
  unfold takeTg
  exact Nat.le_trans (takeTN_size _ _) (rRaw_size r 1).2
theorem body_size (p : PD) (r : RS) : (bodyP p r).2.1.size ≤ r.1.size := by
  have a := (rt_sizes r).2.2
  have b := takeTg_size r
  have c := (sn_sizes r).2.2.2
  have d := (sn_sizes r).1
  unfold bodyP
  generalize rt3 r = A at a ⊢
  generalize takeTg r = B at b ⊢
  generalize sn3 r = C at c ⊢
  generalize ts2 r = D at d ⊢
  by_cases h1 : p.kind = 1
  · rw [if_pos h1]; exact a
  · rw [if_neg h1]
    by_cases h2 : p.kind = 2
    · rw [if_pos h2]; exact b
    · rw [if_neg h2]
      by_cases h3 : p.kind = 3
      · rw [if_pos h3]; exact c
      · rw [if_neg h3]
        by_cases h4 : p.kind = 4
        · rw [if_pos h4]; exact d
        · rw [if_neg h4]; exact Nat.le_refl _
theorem decB1 {s : ByteArray} (h : (rA s).1 = 1) : (decB s).1 = { headP s with s0 := nthS (takeRN (rC s).2 5).1 0, s1 := nthS (takeRN (rC s).2 5).1 1, s2 := nthS (takeRN (rC s).2 5).1 2, s3 := nthS (takeRN (rC s).2 5).1 3, s4 := nthS (takeRN (rC s).2 5).1 4, log := (rt2 (rC s).2).1, org := (rt3 (rC s).2).1 } ∧ (decB s).2 = (rt3 (rC s).2).2 := by
  unfold decB bodyP
  rw [if_pos (show (headP s).kind = 1 from h)]
  generalize takeRN (rC s).2 5 = A
  generalize rt2 (rC s).2 = B
  generalize rt3 (rC s).2 = C
  exact ⟨rfl, rfl⟩
theorem decB2 {s : ByteArray} (h : (rA s).1 = 2) : (decB s).1 = { headP s with T := (takeTg (rC s).2).1 } ∧ (decB s).2 = (takeTg (rC s).2).2 := by
  have e : decB s = ({ headP s with T := (takeTg (rC s).2).1 }, (takeTg (rC s).2).2) := by
    unfold decB bodyP
    rw [if_neg (show ¬ (headP s).kind = 1 by show ¬ (rA s).1 = 1; omega), if_pos (show (headP s).kind = 2 from h)]
  rw [e]
  exact ⟨rfl, rfl⟩
theorem decB3 {s : ByteArray} (h : (rA s).1 = 3) : (decB s).1 = { headP s with of := (ts1 (rC s).2).1, hash := (ts2 (rC s).2).1, pO := (sn1 (rC s).2).1, pS := (sn2 (rC s).2).1, pR := (sn3 (rC s).2).1 } ∧ (decB s).2 = (sn3 (rC s).2).2 := by
  have e : decB s = ({ headP s with of := (ts1 (rC s).2).1, hash := (ts2 (rC s).2).1, pO := (sn1 (rC s).2).1, pS := (sn2 (rC s).2).1, pR := (sn3 (rC s).2).1 }, (sn3 (rC s).2).2) := by
    unfold decB bodyP
    rw [if_neg (show ¬ (headP s).kind = 1 by show ¬ (rA s).1 = 1; omega), if_neg (show ¬ (headP s).kind = 2 by show ¬ (rA s).1 = 2; omega), if_pos (show (headP s).kind = 3 from h)]
  rw [e]
  exact ⟨rfl, rfl⟩
theorem decB4 {s : ByteArray} (h : (rA s).1 = 4) : (decB s).1 = { headP s with of := (ts1 (rC s).2).1, hash := (ts2 (rC s).2).1 } ∧ (decB s).2 = (ts2 (rC s).2).2 := by
  have e : decB s = ({ headP s with of := (ts1 (rC s).2).1, hash := (ts2 (rC s).2).1 }, (ts2 (rC s).2).2) := by
    unfold decB bodyP
    rw [if_neg (show ¬ (headP s).kind = 1 by show ¬ (rA s).1 = 1; omega), if_neg (show ¬ (headP s).kind = 2 by show ¬ (rA s).1 = 2; omega), if_neg (show ¬ (headP s).kind = 3 by show ¬ (rA s).1 = 3; omega), if_pos (show (headP s).kind = 4 from h)]
  rw [e]
  exact ⟨rfl, rfl⟩
theorem five {α : Type} {L : List α} (h : L.length = 5) : ∃ a b c d e, L = [a, b, c, d, e] := by
  match L, h with
  | [a, b, c, d, e], _ => exact ⟨a, b, c, d, e, rfl⟩
theorem fit1 {s : ByteArray} (hs : s.size ≤ 1000000000) (h : (rA s).1 = 1) : CFit (decB s).1 := by
  rw [(decB1 h).1]
  obtain ⟨z1, z2, z3⟩ := rC_size s
  obtain ⟨y1, y2, -⟩ := rt_sizes (rC s).2
  have hL := takeRN_lens (rC s).2 5
  have hl5 := takeRN_len (rC s).2 5
  generalize takeRN (rC s).2 5 = A at hL hl5 ⊢
  generalize rt2 (rC s).2 = B at y1 ⊢
  generalize rt3 (rC s).2 = C at y2 ⊢
  have z4 : C.1.size ≤ 1000000000 := by omega
  have z5 : B.1.size ≤ 1000000000 := by omega
  refine ⟨z5, z4, Nat.zero_le _, Nat.zero_le _, ?_, Nat.zero_le _⟩
  obtain ⟨a, b, c, d, e, hl⟩ := five hl5
  rw [hl] at hL ⊢
  intro S hS
  have : S.1.length ≤ 255 := hL S hS
  omega
theorem fit2 {s : ByteArray} (h : (rA s).1 = 2) : CFit (decB s).1 := by
  rw [(decB2 h).1]
  refine ⟨Nat.zero_le _, Nat.zero_le _, Nat.zero_le _, Nat.zero_le _, ?_, ?_⟩
  · intro S hS
    have : S = ([], 0) := by simpa [PD.S, headP, pz] using hS
    rw [this]
    exact Nat.zero_le _
  · have := takeTg_len (rC s).2
    show (takeTg (rC s).2).1.length ≤ _
    omega
theorem fit3 {s : ByteArray} (hs : s.size ≤ 1000000000) (h : (rA s).1 = 3) : CFit (decB s).1 := by
  rw [(decB3 h).1]
  obtain ⟨z1, z2, z3⟩ := rC_size s
  obtain ⟨y1, y2⟩ := sn_sizes1 (rC s).2
  refine ⟨Nat.zero_le _, Nat.zero_le _, by show (sn1 (rC s).2).1.size ≤ _; omega, by show (sn3 (rC s).2).1.size ≤ _; omega, ?_, Nat.zero_le _⟩
  intro S hS
  have : S = ([], 0) := by simpa [PD.S, headP, pz] using hS
  rw [this]
  exact Nat.zero_le _
theorem fit4 {s : ByteArray} (h : (rA s).1 = 4) : CFit (decB s).1 := by
  rw [(decB4 h).1]
  refine ⟨Nat.zero_le _, Nat.zero_le _, Nat.zero_le _, Nat.zero_le _, ?_, Nat.zero_le _⟩
  intro S hS
  have : S = ([], 0) := by simpa [PD.S, headP, pz] using hS
  rw [this]
  exact Nat.zero_le _
/-- a root's sets as they stand, as a document. -/
theorem own_root {W : World} {base : Nat} {s : ByteArray} {f : Nat → SV} {L : List SetT} {lg og : ByteArray} (hl : L.length = 5) (h : OwnF W base f L) :
    DocOwn W base { setF (dHead s) f with log := lg, org := og } { headP s with s0 := nthS L 0, s1 := nthS L 1, s2 := nthS L 2, s3 := nthS L 3, s4 := nthS L 4, log := lg, org := og } := by
  obtain ⟨A, B, C, D, E, rfl⟩ := five hl
  obtain ⟨a1, a2, a3⟩ := h 0 A rfl
  obtain ⟨b1, b2, b3⟩ := h 1 B rfl
  obtain ⟨c1, c2, c3⟩ := h 2 C rfl
  obtain ⟨d1, d2, d3⟩ := h 3 D rfl
  obtain ⟨e1, e2, e3⟩ := h 4 E rfl
  refine ⟨fun k => if k < 5 then (f k).ad else none, fun k => if k < 5 then (f k).c else 0, ?_, ?_, ownL_nil _ _⟩
  · have g0 : f 0 = ⟨(f 0).ad, A.1.length, (f 0).c, A.2⟩ := by rw [← a1, ← a2]
    have g1 : f 1 = ⟨(f 1).ad, B.1.length, (f 1).c, B.2⟩ := by rw [← b1, ← b2]
    have g2 : f 2 = ⟨(f 2).ad, C.1.length, (f 2).c, C.2⟩ := by rw [← c1, ← c2]
    have g3 : f 3 = ⟨(f 3).ad, D.1.length, (f 3).c, D.2⟩ := by rw [← d1, ← d2]
    have g4 : f 4 = ⟨(f 4).ad, E.1.length, (f 4).c, E.2⟩ := by rw [← e1, ← e2]
    unfold setF
    rw [g0, g1, g2, g3, g4]
    rfl
  · intro k S hS
    have hk : k < 5 := (List.getElem?_eq_some_iff.1 hS).1
    show OwnS W base (.slice (if k < 5 then (f k).ad else none) S.1.length (if k < 5 then (f k).c else 0)) S.1
    rw [if_pos hk, if_pos hk]
    match k, hk with
    | 0, _ => obtain rfl := Option.some.inj (show some A = some S from hS); rw [← a1]; exact a3
    | 1, _ => obtain rfl := Option.some.inj (show some B = some S from hS); rw [← b1]; exact b3
    | 2, _ => obtain rfl := Option.some.inj (show some C = some S from hS); rw [← c1]; exact c3
    | 3, _ => obtain rfl := Option.some.inj (show some D = some S from hS); rw [← d1]; exact d3
    | 4, _ => obtain rfl := Option.some.inj (show some E = some S from hS); rw [← e1]; exact e3
def DecAll (s : ByteArray) (w : World) (e : Ending) (w' : World) : Prop := ∃ d', e = .returned (.tuple #[.agg (docC d'), .int .i64 (decD s).2]) ∧ DocOwn w' w.heap.size d' (decD s).1 ∧ Below w.heap.size w w'
theorem dec_all_of {s : ByteArray} {w : World} {e : Ending} {w' : World} (h : DecPost (decE (decB s).2 (chkP (decB s).1)) (fun d W => DocOwn W (w.heap.size + 2) d (decB s).1) w e w') : DecAll s w e w' := by
  obtain ⟨d', he, hd, hb⟩ := h
  unfold DecAll decD
  unfold decE at he hd
  by_cases hc : (rEnd (decB s).2).2 ≠ 0 ∨ chkP (decB s).1 ≠ 0
  · rw [if_pos hc] at he hd ⊢
    rw [if_neg (by decide)] at hd
    subst hd
    exact ⟨dz, he, doc_none, hb⟩
  · rw [if_neg hc] at he hd ⊢
    rw [if_pos rfl] at hd
    exact ⟨d', he, hd.base (by omega), hb⟩
theorem decode_all (s : ByteArray) (w : World) (hs : s.size ≤ 1000000000) (hV : VarsP w) : Calls Tryz.prog 11 #[.string s] w (DecAll s w) := by
  obtain ⟨z1, z2, z3⟩ := rC_size s
  have hr4 : (decB s).2.1.size ≤ 1000000000 := by have := body_size (headP s) (rC s).2; unfold decB; omega
  have hp : ∀ d W W', DocOwn W (w.heap.size + 2) d (decB s).1 → w.heap.size < W.heap.size → Kp (fun k => k = w.heap.size ∨ k = w.heap.size + 1) W W' → DocOwn W' (w.heap.size + 2) d (decB s).1 := fun d W W' h _ k => h.kp k (fun g hg hx => by omega)
  have hc : CFit (decB s).1 → ∀ d W, Below w.heap.size w W → DocOwn W (w.heap.size + 2) d (decB s).1 → Calls Tryz.prog 10 #[docV d] W fun e w' => e = .returned (.int .i64 (chkP (decB s).1)) ∧ Below W.heap.size W w' := fun hf d W hb h => check_all _ d W h.m hf (hV.below hb)
  by_cases hk : 1 ≤ (rA s).1 ∧ (rA s).1 ≤ 4
  · by_cases h1 : (rA s).1 = 1
    · refine (decode_form 92 93 94 95 s (decB s).2 (chkP (decB s).1) (fun d W => DocOwn W (w.heap.size + 2) d (decB s).1) w hs hr4 enter_rt (by rw [h1]; exact forms1) ?_ hp (hc (fit1 hs h1))).mono fun e w' h => dec_all_of h
      rw [(decB1 h1).1, (decB1 h1).2]
      refine (takert_any (dHead s) (rC s).2 w (by omega)).imp ?_
      rintro d W ⟨f, rfl, ho⟩
      exact own_root (takeRN_len _ 5) ho
    · by_cases h2 : (rA s).1 = 2
      · refine (decode_form 96 97 98 99 s (decB s).2 (chkP (decB s).1) (fun d W => DocOwn W (w.heap.size + 2) d (decB s).1) w hs hr4 enter_gt (by rw [h2]; exact forms2) ?_ hp (hc (fit2 h2))).mono fun e w' h => dec_all_of h
        rw [(decB2 h2).1, (decB2 h2).2]
        refine (taketg_any (dHead s) (rC s).2 w (by omega) ⟨rfl, rfl, rfl⟩).imp ?_
        rintro d W ⟨ad, cp, rfl, ho⟩
        exact ⟨fun k => if k = 5 then ad else none, fun k => if k = 5 then cp else 0, rfl, own_none rfl rfl rfl rfl rfl _ _ (fun k hk => ⟨if_neg (by omega), if_neg (by omega)⟩), ho⟩
      · by_cases h3 : (rA s).1 = 3
        · refine (decode_form 100 101 102 103 s (decB s).2 (chkP (decB s).1) (fun d W => DocOwn W (w.heap.size + 2) d (decB s).1) w hs hr4 enter_st (by rw [h3]; exact forms3) ?_ hp (hc (fit3 hs h3))).mono fun e w' h => dec_all_of h
          rw [(decB3 h3).1, (decB3 h3).2]
          refine (takesn_any (dHead s) (rC s).2 w (by omega)).imp ?_
          rintro d W rfl
          exact ⟨fun _ => none, fun _ => 0, rfl, own_none rfl rfl rfl rfl rfl _ _ (fun _ _ => ⟨rfl, rfl⟩), ownL_nil _ _⟩
        · have h4 : (rA s).1 = 4 := by omega
          refine (decode_form 104 105 106 107 s (decB s).2 (chkP (decB s).1) (fun d W => DocOwn W (w.heap.size + 2) d (decB s).1) w hs hr4 enter_tt (by rw [h4]; exact forms4) ?_ hp (hc (fit4 h4))).mono fun e w' h => dec_all_of h
          rw [(decB4 h4).1, (decB4 h4).2]
          refine (taketst_any (dHead s) (rC s).2 w (by omega)).imp ?_
          rintro d W rfl
          exact ⟨fun _ => none, fun _ => 0, rfl, own_none rfl rfl rfl rfl rfl _ _ (fun _ _ => ⟨rfl, rfl⟩), ownL_nil _ _⟩
  · refine (decode_none s w hs hk).mono ?_
    rintro e w' ⟨d', he, hd, hb⟩
    rw [if_neg (by decide)] at hd
    subst hd
    have hck : chkP (decB s).1 ≠ 0 := by
      have e1 : (decB s).1.kind = (rA s).1 := by
        unfold decB bodyP
        have g : (headP s).kind = (rA s).1 := rfl
        rw [g, if_neg (by omega), if_neg (by omega), if_neg (by omega), if_neg (by omega)]
        rfl
      unfold chkP
      rw [e1, if_neg hk]
      decide
    have ed : decD s = (pz, 3) := by unfold decD; rw [if_pos (.inr hck)]
    unfold DecAll
    rw [ed]
    exact ⟨dz, he, doc_none, hb⟩

/-! the same documents -/
def sbP (p q : PD) (k : Nat) : Bool := decide ((nthS p.S k).2 = (nthS q.S k).2) && decide ((nthS p.S k).1 = (nthS q.S k).1)
def sameP (p q : PD) : Bool := sameB (D0 p) (D0 q) (sbP p q) p.T q.T
theorem same_all (p q : PD) (d e : DV) (w : World) (hp : DocM w d p) (hq : DocM w e q) (fp : CFit p) (fq : CFit q) : Calls Tryz.prog 12 #[docV d, docV e] w fun en w' => en = .returned (.bool (sameP p q)) ∧ Below w.heap.size w w' := by
  obtain ⟨a, c, rfl, hS, hT⟩ := hp
  obtain ⟨a', c', rfl, hS', hT'⟩ := hq
  have hsp := sets_of (c := c) hS fp
  have hsq := sets_of (c := c') hS' fq
  have h := samedoc_any (dvP p a c) (dvP q a' c') (sbP p q) p.T q.T w fp.T fq.T rfl rfl hT hT' (fun k s t W hs ht hb => by
    have hk : k < 5 := (List.getElem?_eq_some_iff.1 hs).1
    have e1 : p.S[k]? = some (nthS p.S k) := by
      have hl : k < p.S.length := hk
      unfold nthS
      rw [List.getD_eq_getElem?_getD, List.getElem?_eq_getElem hl]
      rfl
    have e2 : q.S[k]? = some (nthS q.S k) := by
      have hl : k < q.S.length := hk
      unfold nthS
      rw [List.getD_eq_getElem?_getD, List.getElem?_eq_getElem hl]
      rfl
    obtain ⟨m1, l1⟩ := (hsp.below hb).2 k s _ hs e1
    obtain ⟨m2, l2⟩ := (hsq.below hb).2 k t _ ht e2
    exact sameset_any s t _ _ W l1 l2 m1 m2)
  exact h
theorem sameP_refl (p : PD) : sameP p p = true := by
  have hs : ∀ k, sbP p p k = true := fun k => by unfold sbP; rw [decide_eq_true rfl, decide_eq_true rfl]; rfl
  unfold sameP sameB restE ptEq
  simp [hs]
theorem sameP_eq {p q : PD} (h : sameP p q = true) : p = q := by
  unfold sameP sameB restE ptEq sbP at h
  simp only [Bool.and_eq_true, decide_eq_true_eq] at h
  obtain ⟨⟨⟨a1, a2⟩, ⟨b1, b2⟩, ⟨c1, c2⟩, d1, d2⟩, hT, k1, k2, k3, ⟨e1, e2⟩, k4, k5, ⟨k6, k7, k8⟩, k9, k10⟩ := h
  obtain ⟨kd, ve, ex, s0, s1, s2, s3, s4, lg, og, T, pO, pS, pR, of, hs⟩ := p
  obtain ⟨kd', ve', ex', s0', s1', s2', s3', s4', lg', og', T', pO', pS', pR', of', hs'⟩ := q
  have i0 : s0 = s0' := Prod.ext a2 a1
  have i1 : s1 = s1' := Prod.ext b2 b1
  have i2 : s2 = s2' := Prod.ext c2 c1
  have i3 : s3 = s3' := Prod.ext d2 d1
  have i4 : s4 = s4' := Prod.ext e2 e1
  have j1 : kd = kd' := k1
  have j2 : ve = ve' := k2
  have j3 : ex = ex' := k3
  have j4 : lg = lg' := k4
  have j5 : og = og' := k5
  have j6 : pO = pO' := k6
  have j7 : pS = pS' := k7
  have j8 : pR = pR' := k8
  have j9 : of = of' := k9
  have j10 : hs = hs' := k10
  have j11 : T = T' := hT
  subst i0 i1 i2 i3 i4 j1 j2 j3 j4 j5 j6 j7 j8 j9 j10 j11
  rfl

/-! ### MetaBack -/
theorem doc_new (w : World) (d' : DV) : DocAt ((w.alloc (.cells (docC dz) 30)).setRow w.heap.size (docC d')) w.heap.size d' ∧ Below w.heap.size w ((w.alloc (.cells (docC dz) 30)).setRow w.heap.size (docC d')) := by
  obtain ⟨h1, h2⟩ := doc_setRow (blk_new w (.cells (docC dz) 30)) d'
  exact ⟨h1, ((Below.refl _ w).alloc (Nat.le_refl _) _).trans (h2.toBelow (by rw [size_alloc]; omega) (fun i hi => by omega))⟩
theorem fit_of_chk {p : PD} (h : chkP p = 0) : CFit p := by
  obtain ⟨hk, hv, hx, hg, -⟩ := chkP0 h
  have hf := chk_form h
  unfold goodP at hg
  have z : ∀ S : SetT, S = ([], 0) → S.1.length ≤ 100000000 := fun S hS => by rw [hS]; exact Nat.zero_le _
  rcases hf with ⟨k1, e1, e2, e3, e4, e5, e6⟩ | ⟨hk1, e0, e1, e2, e3, e4, e5, e6, hf⟩
  · rw [if_pos k1] at hg
    unfold rootGood at hg
    rw [Bool.and_eq_true] at hg
    obtain ⟨c1, c2, -, -, c3⟩ := cpV_ok (of_decide_eq_true hg.1)
    have hS : ∀ S ∈ p.S, setGood S = true := List.all_eq_true.1 hg.2
    have c2' : p.org.size ≤ 64 := c2
    have c3' : p.log.size = 32 := c3
    exact ⟨by omega, by omega, by rw [e4]; exact Nat.zero_le _, by rw [e6]; exact Nat.zero_le _, fun S h => by have := (setGood_ids (hS S h)).1; omega, by rw [e1]; exact Nat.zero_le _⟩
  · have zs : ∀ S ∈ p.S, S.1.length ≤ 100000000 := by
      intro S hS
      unfold PD.S at hS
      rw [e0, e1, e2, e3, e4] at hS
      exact z S (by simpa using hS)
    rw [if_neg hk1] at hg
    rcases hf with ⟨k2, g2, g3, g4, g5, g6⟩ | ⟨k3, g2⟩ | ⟨k4, g2, g3, g4, g5⟩
    · rw [if_pos k2] at hg
      unfold goodTg at hg
      rw [Bool.and_eq_true] at hg
      have hl : p.T.length ≤ 64 := of_decide_eq_true hg.2
      exact ⟨by rw [e5]; exact Nat.zero_le _, by rw [e6]; exact Nat.zero_le _, by rw [g4]; exact Nat.zero_le _, by rw [g6]; exact Nat.zero_le _, zs, by omega⟩
    · rw [if_neg (by omega), if_pos k3] at hg
      unfold snGood at hg
      simp only [Bool.and_eq_true, decide_eq_true_eq] at hg
      obtain ⟨c1, c2, c3, c4, c5⟩ := cpV_ok hg.1
      have c2' : p.pO.size ≤ 64 := c2
      have c5' : p.pR.size = 32 := c5
      exact ⟨by rw [e5]; exact Nat.zero_le _, by rw [e6]; exact Nat.zero_le _, by omega, by omega, zs, by rw [g2]; exact Nat.zero_le _⟩
    · exact ⟨by rw [e5]; exact Nat.zero_le _, by rw [e6]; exact Nat.zero_le _, by rw [g3]; exact Nat.zero_le _, by rw [g5]; exact Nat.zero_le _, zs, by rw [g2]; exact Nat.zero_le _⟩
theorem idB_size : ∀ L : List ByteArray, (∀ t ∈ L, t.size = 32) → (idB L).size = 32 * L.length := by
  refine snoc_ind (fun _ => rfl) ?_
  intro L x ih h
  have h1 := ih (fun t ht => h t (by simp [ht]))
  have h2 := h x (by simp)
  rw [idB_snoc, ByteArray.size_append, List.length_append, List.length_singleton]
  omega
theorem tgB_size : ∀ L : List TgtT, (∀ t ∈ L, TgFit t) → (tgB L).size = 35 * L.length := by
  refine snoc_ind (fun _ => rfl) ?_
  intro L x ih h
  have h1 := ih (fun t ht => h t (by simp [ht]))
  obtain ⟨-, -, -, -, h2⟩ := h x (by simp)
  rw [tgB_snoc, ByteArray.size_append, List.length_append, List.length_singleton]
  unfold tgOne
  rw [ByteArray.size_append, ByteArray.size_append, numB_size, numB_size]
  omega
theorem setB_size {S : SetT} (h : setGood S = true) : (setB S).size ≤ 514 := by
  obtain ⟨⟨g1, g2, g3, g4⟩, g5⟩ := setGood_ids h
  unfold setB
  have h1 := idB_size S.1 g5
  have h0 : (⟨#[]⟩ : ByteArray).size = 0 := rfl
  rw [ByteArray.size_append, ByteArray.size_append, ByteArray.size_append, numB_size, numB_size]
  omega
theorem bytesP_le {p : PD} (h : chkP p = 0) : (bytesP p).size ≤ 3000 := by
  obtain ⟨hk, hv, hx, hg, -⟩ := chkP0 h
  unfold bytesP
  rw [ByteArray.size_append, ByteArray.size_append, ByteArray.size_append, numB_size, numB_size, numB_size]
  unfold bodyB
  unfold goodP at hg
  by_cases h1 : p.kind = 1
  · rw [if_pos h1] at hg ⊢
    unfold rootGood at hg
    rw [Bool.and_eq_true] at hg
    obtain ⟨c1, c2, -, -, c3⟩ := cpV_ok (of_decide_eq_true hg.1)
    have hS : ∀ S ∈ p.S, setGood S = true := List.all_eq_true.1 hg.2
    have a0 := setB_size (hS p.s0 (by simp [PD.S]))
    have a1 := setB_size (hS p.s1 (by simp [PD.S]))
    have a2 := setB_size (hS p.s2 (by simp [PD.S]))
    have a3 := setB_size (hS p.s3 (by simp [PD.S]))
    have a4 := setB_size (hS p.s4 (by simp [PD.S]))
    have c2' : p.org.size ≤ 64 := c2
    have c3' : p.log.size = 32 := c3
    simp only [ByteArray.size_append, numB_size]
    omega
  · rw [if_neg h1] at hg ⊢
    by_cases h2 : p.kind = 2
    · rw [if_pos h2] at hg ⊢
      unfold goodTg at hg
      rw [Bool.and_eq_true] at hg
      have hl : p.T.length ≤ 64 := of_decide_eq_true hg.2
      have ht := tgB_size p.T (tgsB_fit p.T 0 (by omega) hg.1)
      unfold tgsBytes
      simp only [ByteArray.size_append, numB_size]
      omega
    · rw [if_neg h2] at hg ⊢
      by_cases h3 : p.kind = 3
      · rw [if_pos h3] at hg ⊢
        unfold snGood tsGood at hg
        simp only [Bool.and_eq_true, decide_eq_true_eq] at hg
        obtain ⟨c1, c2, c3, c4, c5⟩ := cpV_ok hg.1
        obtain ⟨-, o1, o3⟩ := hg
        have c2' : p.pO.size ≤ 64 := c2
        have c5' : p.pR.size = 32 := c5
        have o3' : p.hash.size = 32 := o3
        simp only [ByteArray.size_append, numB_size]
        omega
      · rw [if_neg h3] at hg ⊢
        unfold tsGood at hg
        simp only [Bool.and_eq_true, decide_eq_true_eq] at hg
        simp only [ByteArray.size_append, numB_size]
        omega
theorem encD_size (p : PD) : (encD p).1.size ≤ 3000 := by
  by_cases h : chkP p = 0
  · rw [enc_ok h]; exact bytesP_le h
  · rw [(enc_bad h).1]; exact Nat.zero_le _
theorem one0_size : (⟨#[0]⟩ : ByteArray).size = 1 := rfl

set_option maxRecDepth 100000 in
set_option maxHeartbeats 4000000 in
theorem metaback_any (p : PD) (d : DV) (n : Nat) (w : World) (h : DocM w d p) (hf : EFit p) (hn : n < 65536) (hBz : (encD p).1.size ≤ 100000000) (hV : VarsP w) :
    Calls Tryz.prog 3 #[docV d, .int .u16 n] w fun e w' => e = .returned (.bool true) ∧ Below w.heap.size w w' := by
  have HSl := Lib.hid seals_any
  have HEn := Lib.hid (fun W (hb : Below w.heap.size w W) => encode_all p d W (h.below hb) hf (hV.below hb))
  have HCk := Lib.hid (fun W (hb : Below w.heap.size w W) => check_all p d W (h.below hb) hf.c (hV.below hb))
  have HM := Lib.hid h
  have HVw := Lib.hid hV
  have hd : DocAt (w.alloc (.cells (docC d) 30)) w.heap.size d := blk_new _ _
  have hB : Below w.heap.size w (w.alloc (.cells (docC d) 30)) := (Below.refl _ w).alloc (Nat.le_refl _) _
  obtain ⟨w1, hw1⟩ : ∃ w1, w1 = w.alloc (.cells (docC d) 30) := ⟨_, rfl⟩
  rw [← hw1] at hd hB
  have HD1 := Lib.hid hd
  have HB1 := Lib.hid hB
  have HFc := Lib.hid hf.c
  unfold docV at HEn HCk ⊢
  clear h hf hV hd hB
  go_enter Tryz.func3, Tryz.ntmps3
  go_wp2_with fail
  rw [← hw1]
  clear hw1
  refine (HSl.out w1).mono ?_
  rintro e w2 ⟨rfl, hb2⟩
  have HD2 : Hid (DocAt w2 w.heap.size d) := Lib.hid (HD1.out.later hb2)
  have HB2 := Lib.hid (HB1.out.trans (hb2.mono HB1.out.size))
  clear hb2 HD1 HB1 HSl
  go_wp2_with (first | refine wpList_doc rfl _ rfl w.heap.size d rfl HD2.out ?_ | fail)
  refine (HEn.out w2 HB2.out).mono ?_
  rintro e w3 ⟨rfl, hb3⟩
  have HD3 : Hid (DocAt w3 w.heap.size d) := Lib.hid (HD2.out.later hb3)
  have HB3 := Lib.hid (HB2.out.trans (hb3.mono HB2.out.size))
  clear hb3 HD2 HB2 HEn
  by_cases hc : chkP p = 0
  case neg =>
    obtain ⟨e1, e2⟩ := enc_bad hc
    rw [e1]
    rw [e2] at HCk
    clear e1 e2 hc hBz
    have hee : ((⟨#[]⟩ : ByteArray).toList == (⟨#[]⟩ : ByteArray).toList) = true := beq_self_eq_true _
    go_wp2_with (first | refine wpList_docg rfl _ rfl w.heap.size d rfl HD3.out ?_ | fail)
    refine (HCk.out w3 HB3.out).mono ?_
    rintro e w4 ⟨rfl, hb4⟩
    have HB4 := Lib.hid (HB3.out.trans (hb4.mono HB3.out.size))
    clear hb4
    go_wp2_with fail
    go_ret
    exact ⟨rfl, HB4.out⟩
  case pos =>
    have e1 := enc_ok hc
    rw [e1] at hBz ⊢
    have hdb := dec_back hc
    have hmore := dec_more hc ⟨#[0]⟩ (by decide)
    have hcut := dec_cut hc
    have hsz := bytesP_size p
    have hfit := fit_of_chk hc
    generalize bytesP p = B at *
    dsimp only at hBz ⊢
    have HDb := Lib.hid hdb
    have HMo := Lib.hid hmore
    have hk : n % B.size < B.size := Nat.mod_lt _ (by omega)
    have HCu := Lib.hid (hcut (n % B.size) hk)
    have hkk : Int.tmod (n : Int) (B.size : Int) = ((n % B.size : Nat) : Int) := by rw [Int.tmod_eq_emod_of_nonneg (by omega)]; omega
    generalize n % B.size = k at hk HCu hkk
    clear e1 hdb hmore hcut hc HCk
    go_wp2_with fail
    have h4 := decode_all B w3 (by omega) (HVw.out.below HB3.out)
    unfold DecAll at h4
    rw [HDb.out] at h4
    refine h4.mono ?_
    rintro e w4 ⟨d', rfl, ho4, hb4⟩
    have HD4 : Hid (DocAt w4 w.heap.size d) := Lib.hid (HD3.out.later hb4)
    have HB4 := Lib.hid (HB3.out.trans (hb4.mono HB3.out.size))
    have HM4 := Lib.hid (DocOwn.m ho4)
    clear hb4 ho4 h4 HD3 HB3
    dsimp only at HM4 ⊢
    have hdx : DocAt w4 w.heap.size d := HD4.out
    have hdb4 : w.heap.size < w4.heap.size := (Array.getElem?_eq_some_iff.1 hdx).1
    obtain ⟨hn5, hb5⟩ := doc_new w4 d'
    have hd6 : DocAt (w4.alloc (.cells (docC dz) 30)) w4.heap.size dz := blk_new _ _
    have HD6 := Lib.hid hd6
    have HN5 := Lib.hid hn5
    have HD5 : Hid (DocAt _ w.heap.size d) := Lib.hid (hdx.later hb5)
    have HM5 := Lib.hid (HM4.out.below hb5)
    have HB5 := Lib.hid (HB4.out.trans (hb5.mono HB4.out.size))
    obtain ⟨wa, hwa⟩ : ∃ wa, wa = w4.alloc (.cells (docC dz) 30) := ⟨_, rfl⟩
    rw [← hwa] at HN5 HD5 HM5 HB5
    have hwa' := hwa
    simp only [docC, dz, sz] at hwa'
    have hwr : IntKind.i64.wrap (n : Int) = (n : Int) := IntWalk.i64_in _ (by omega)
    have hwk : IntKind.i64.wrap (k : Int) = (k : Int) := IntWalk.i64_in _ (by omega)
    have hnz : ((B.size : Int) == 0) = false := beq_eq_false_iff_ne.2 (by omega)
    have hnz2 : ¬ (B.size : Int) = 0 := by omega
    have hk0 : (0 : Int) ≤ (k : Int) := Int.natCast_nonneg _
    have hk1 : (k : Int) ≤ (B.size : Int) := by omega
    clear hdx hn5 hb5 hd6 HD4 HB4 HM4
    go_wp2_with (first | refine wpList_docst rfl _ _ rfl w4.heap.size dz d' rfl rfl HD6.out ?_ | fail)
    rw [← hwa']
    clear hwa' HD6 hwr hwk hnz hnz2 hkk
    have hxb : w4.heap.size ≠ w.heap.size := by omega
    generalize wa.setRow w4.heap.size (docC d') = w5 at HN5 HD5 HM5 HB5 ⊢
    generalize w4.heap.size = xb at HN5 hxb ⊢
    clear hwa
    have h6 := decode_all (B.extract 0 k) w5 (by rw [ByteArray.size_extract]; omega) (HVw.out.below HB5.out)
    unfold DecAll at h6
    rw [HCu.out] at h6
    refine h6.mono ?_
    rintro e w6 ⟨d2, rfl, ho6, hb6⟩
    clear ho6 h6 hk0 hk1
    dsimp only
    have hN6 : DocAt w6 xb d' := HN5.out.later hb6
    have hD6 : DocAt w6 w.heap.size d := HD5.out.later hb6
    have hM6 := HM5.out.below hb6
    have hB6 := HB5.out.trans (hb6.mono HB5.out.size)
    obtain ⟨hn7, hb7⟩ := doc_new w6 d2
    have hd6 : DocAt (w6.alloc (.cells (docC dz) 30)) w6.heap.size dz := blk_new _ _
    have HZ6 := Lib.hid hd6
    have HN7 : Hid (DocAt _ xb d') := Lib.hid (hN6.later hb7)
    have HD7 : Hid (DocAt _ w.heap.size d) := Lib.hid (hD6.later hb7)
    have HM7 := Lib.hid (hM6.below hb7)
    have HB7 := Lib.hid (hB6.trans (hb7.mono hB6.size))
    obtain ⟨wa, hwa⟩ : ∃ wa, wa = w6.alloc (.cells (docC dz) 30) := ⟨_, rfl⟩
    rw [← hwa] at HN7 HD7 HM7 HB7
    have hwa' := hwa
    simp only [docC, dz, sz] at hwa'
    have hBs : ¬ 9223372036854775807 < B.size + (⟨#[0]⟩ : ByteArray).size := by rw [one0_size]; omega
    clear hb6 hN6 hD6 hM6 hB6 hn7 hb7 hd6 HN5 HD5 HM5 HB5
    go_wp2_with (first | refine wpList_docst rfl _ _ rfl w6.heap.size dz d2 rfl rfl HZ6.out ?_ | fail)
    rw [← hwa']
    clear hwa' HZ6 hBs
    generalize wa.setRow w6.heap.size (docC d2) = w7 at HN7 HD7 HM7 HB7 ⊢
    clear hwa
    have h8 := decode_all (B ++ ⟨#[0]⟩) w7 (by rw [ByteArray.size_append, one0_size]; omega) (HVw.out.below HB7.out)
    unfold DecAll at h8
    rw [HMo.out] at h8
    refine h8.mono ?_
    rintro e w8 ⟨d3, rfl, ho8, hb8⟩
    clear ho8 h8
    dsimp only
    have hN8 : DocAt w8 xb d' := HN7.out.later hb8
    have hD8 : DocAt w8 w.heap.size d := HD7.out.later hb8
    have hM8 := HM7.out.below hb8
    have hB8 := HB7.out.trans (hb8.mono HB7.out.size)
    obtain ⟨hn9, hb9⟩ := doc_new w8 d3
    have hd8 : DocAt (w8.alloc (.cells (docC dz) 30)) w8.heap.size dz := blk_new _ _
    have HZ8 := Lib.hid hd8
    have HN9 : Hid (DocAt _ xb d') := Lib.hid (hN8.later hb9)
    have HD9 : Hid (DocAt _ w.heap.size d) := Lib.hid (hD8.later hb9)
    have HM9 := Lib.hid (hM8.below hb9)
    have HB9 := Lib.hid (hB8.trans (hb9.mono hB8.size))
    have hS := same_all p p d' d _ HM9.out (HM.out.below HB9.out) hfit hfit
    rw [sameP_refl] at hS
    unfold docV at hS
    have HS := Lib.hid hS
    obtain ⟨wa, hwa⟩ : ∃ wa, wa = w8.alloc (.cells (docC dz) 30) := ⟨_, rfl⟩
    rw [← hwa] at HS HB9
    have hwa' := hwa
    simp only [docC, dz, sz] at hwa'
    clear hb8 hN8 hD8 hM8 hB8 hn9 hb9 hd8 HN7 HD7 HM7 HB7 hS
    go_wp2_with (first | refine wpList_docst rfl _ _ rfl w8.heap.size dz d3 rfl rfl HZ8.out ?_ | refine wpList_docg rfl _ rfl xb d' rfl HN9.out ?_ | refine wpList_docg rfl _ rfl w.heap.size d rfl HD9.out ?_ | fail)
    rw [← hwa']
    clear hwa' HZ8
    refine HS.out.mono ?_
    rintro e w9 ⟨rfl, hb10⟩
    have HB10 := Lib.hid (HB9.out.trans (hb10.mono HB9.out.size))
    clear hb10
    go_wp2_with fail
    go_ret
    exact ⟨rfl, HB10.out⟩
end Go.Proofs.YtmejjphliaiamaaGreatDoor
