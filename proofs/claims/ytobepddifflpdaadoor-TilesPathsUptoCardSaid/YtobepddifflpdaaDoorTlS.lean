import Derived.Test.YtobepddifflpdaaDoorTlN
set_option linter.unusedVariables false
namespace Go.Proofs.YtobepddifflpdaaDoor
open Go Go.RowKit Go.Lib Go.Sort Go.Maps Go.WideMaps

theorem makeR_le' (n : Nat) (ps : Nat → ByteArray) (hps : ∀ i, (ps i).size = 32) (l i x : Int) : (makeR n ps l i x).1.size ≤ 100000000000 := by
  unfold makeR
  by_cases hf : fitT l i x = true
  · rw [if_pos hf]
    split
    · exact Nat.zero_le _
    · exact makeT_le ps _ _ _ (fun i => by rw [hps]; omega) (by have := fit_all hf; omega)
  · rw [if_neg hf]
    exact Nat.zero_le _

/-- the law's files as a source. -/
def filesSrc (fb : Nat) (hv : Value) (n : Nat) (ps : Nat → ByteArray) (gone long : ByteArray) (hn : n ≤ 1000) (hps : ∀ i, (ps i).size = 32) : Src where
  σ := Value × List ByteArray
  T := 40
  x := .pointer (some ⟨fb, 0, none⟩)
  fn := 160
  I w s := FilesAt w fb hv n ps gone long s.1 s.2
  R s k := k = fb ∨ s.1.ownBlock = some k ∨ hv.ownBlock = some k
  S s k := FileS fb s.1 k
  log s := s.2
  ans p := ansF n ps gone long p
  sub s k h := h.elim .inl (fun h => .inr (.inl h))
  lt w s h k hk := by
    rcases hk with rfl | hk | hk
    · exact (Array.getElem?_eq_some_iff.1 h.blk).1
    · exact (h.own.lt k hk).2
    · exact (h.hlt k hk).1
  gs w s h k hk := by
    rcases hk with rfl | hk
    · exact h.fb
    · exact (h.own.lt k hk).1
  kp w w' s U h k hU := h.kp k (hU fb (.inl rfl)) (fun g hg => hU g (.inr (.inr hg))) (fun g hg => hU g (.inr (.inl hg)))
  small p hp := by
    show (ansF n ps gone long p).1.size ≤ _
    unfold ansF
    split
    · exact Nat.zero_le _
    · split
      · exact Nat.zero_le _
      · rename_i t _
        have := makeR_le' n ps hps t.1 t.2.1 t.2.2
        split
        · show ((makeR n ps t.1 t.2.1 t.2.2).1 ++ _).size ≤ _
          rw [ByteArray.size_append]
          have : (⟨#[120]⟩ : ByteArray).size = 1 := rfl
          omega
        · omega
  meth w := by kernel_rfl
  ent args w := enters_of Tryd.func160 (by kernel_rfl) rfl args w
  call w s p h hT hp hl := (file_any fb hv n ps gone long s.1 s.2 p w h hT hn hp (Nat.le_trans hl (by decide))).mono fun e w' hpost => by
    obtain ⟨rfl, av', hF, hown, hk⟩ := hpost
    refine ⟨rfl, (av', s.2 ++ [p]), hF, rfl, fun k hk' => ?_, fun k hk' => ?_, hk⟩
    · rcases hk' with h1 | h1 | h1
      · exact .inl (.inl h1)
      · rcases hown with h2 | ⟨b, h2, h3⟩
        · exact .inl (.inr (.inl (h2 ▸ h1)))
        · have h1' : av'.ownBlock = some k := h1
          rw [h2] at h1'
          obtain rfl := Option.some.inj h1'
          exact .inr h3
      · exact .inl (.inr (.inr h1))
    · rcases hk' with h1 | h1
      · exact .inl (.inl h1)
      · rcases hown with h2 | ⟨b, h2, h3⟩
        · exact .inl (.inr (h2 ▸ h1))
        · have h1' : av'.ownBlock = some k := h1
          rw [h2] at h1'
          obtain rfl := Option.some.inj h1'
          exact .inr h3

theorem inT_fit {n l i x : Nat} (hn : n ≤ 1024) (h : InT n l i x) : fitT l i x = true := by
  obtain ⟨h1, h2, h3⟩ := h
  have : n / 2 ^ (2 * l) ≤ n := Nat.div_le_self _ _
  unfold fitT
  simp only [Bool.and_eq_true, decide_eq_true_eq]
  omega
theorem four_pow (l : Nat) : 4 ^ l = 2 ^ (2 * l) := by rw [Nat.pow_mul]

theorem makeR_ok {n : Nat} {ps : Nat → ByteArray} {l i x : Nat} (hf : fitT l i x = true) (h : (makeR n ps l i x).2 = 0) : makeR n ps l i x = (makeT ps (4 ^ l) (4 * i) x, 0) := by
  unfold makeR at h ⊢
  rw [if_pos hf] at h ⊢
  simp only [Int.toNat_natCast] at h ⊢
  by_cases h1 : min 4 (((n / 2 ^ (2 * l) : Nat) : Int) - 4 * (i : Int)) < x
  · rw [if_pos h1] at h
    exact absurd h (by decide)
  · rw [if_neg h1]

theorem vals_files (fb : Nat) (hv : Value) (n k : Nat) (ps : Nat → ByteArray) (gone long : ByteArray) (hn : n ≤ 1000) (hps : ∀ i, (ps i).size = 32) (hk : k ≤ 1024) : Vals (filesSrc fb hv n ps gone long hn hps) k (nodeL ps) := by
  refine ⟨fun l i x t j hT hg hj => ?_, fun l k => nodeL_succ ps (2 * l) k⟩
  have hf := inT_fit hk hT
  obtain ⟨h1, h2⟩ := hg
  have h1' : ansF n ps gone long (pathT l i x) = (t, 0) := h1
  unfold ansF at h1'
  split at h1'
  · cases h1'
  · rw [parse_path hf] at h1'
    simp only at h1'
    have h0 : 0 < 4 ^ l := by rw [four_pow]; exact Nat.two_pow_pos _
    split at h1'
    · injection h1' with h3 h4
      rw [makeR_ok hf h4] at h3
      have := congrArg ByteArray.size h3
      simp only at this
      rw [ByteArray.size_append, makeT_size ps _ _ hps h0, h2] at this
      have e1 : (⟨#[120]⟩ : ByteArray).size = 1 := rfl
      omega
    · have h4 := congrArg Prod.snd h1'
      rw [makeR_ok hf h4] at h1'
      injection h1' with h3 _
      rw [← h3, makeT_part ps _ _ hps h0 x j hj, nodeL, four_pow, Nat.mul_comm]

/-- where nothing is gone and nothing too long, there is no error. -/
theorem files_good (fb : Nat) (hv : Value) (n k : Nat) (ps : Nat → ByteArray) (gone long : ByteArray) (hn : n ≤ 1000) (hps : ∀ i, (ps i).size = 32) (hkn : k ≤ n) {l i x : Nat} (hT : InT k l i x) (hg : pathT l i x ≠ gone) (hl : pathT l i x ≠ long) :
    Good (filesSrc fb hv n ps gone long hn hps) l i x (makeT ps (4 ^ l) (4 * i) x) := by
  have hf := inT_fit (by omega) hT
  have h0 : 0 < 4 ^ l := by rw [four_pow]; exact Nat.two_pow_pos _
  refine ⟨?_, makeT_size ps _ _ hps h0 x⟩
  show ansF n ps gone long (pathT l i x) = _
  unfold ansF
  rw [if_neg hg, parse_path hf]
  simp only
  rw [if_neg hl]
  unfold makeR
  rw [if_pos hf]
  simp only [Int.toNat_natCast]
  have hdiv : k / 2 ^ (2 * l) ≤ n / 2 ^ (2 * l) := Nat.div_le_div_right hkn
  obtain ⟨h1, h2, h3⟩ := hT
  rw [if_neg (by omega)]

theorem files_noBad (fb : Nat) (hv : Value) (n k : Nat) (ps : Nat → ByteArray) (gone long : ByteArray) (hn : n ≤ 1000) (hps : ∀ i, (ps i).size = 32) (hkn : k ≤ n) {p : ByteArray} {e : Int} (h : BadAt (filesSrc fb hv n ps gone long hn hps) k p e) : p = gone ∨ p = long := by
  obtain ⟨l, i, x, hT, rfl, hb⟩ := h
  by_cases hg : pathT l i x = gone
  · exact .inl hg
  · by_cases hl : pathT l i x = long
    · exact .inr hl
    · have := files_good fb hv n k ps gone long hn hps hkn hT hg hl
      obtain ⟨h1, h2⟩ := this
      obtain ⟨h3, h4⟩ := hb
      rw [h1] at h4
      rcases h4 with h4 | ⟨_, h4, _⟩
      · exact absurd h4.symm h3
      · exact absurd h2 h4

theorem path_ne {l i x : Nat} (hf : fitT l i x = true) : pathT l i x ≠ ⟨#[]⟩ := by
  intro h
  have := parse_path hf
  rw [h] at this
  have h2 : parseT ⟨#[]⟩ = none := by
    unfold parseT
    rw [behind_nil _ (by decide)]
  rw [h2] at this
  cases this
end Go.Proofs.YtobepddifflpdaaDoor
