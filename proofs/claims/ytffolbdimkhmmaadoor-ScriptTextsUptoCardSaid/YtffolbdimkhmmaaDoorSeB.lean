import Derived.Test.YtffolbdimkhmmaaDoorScX
set_option linter.unusedVariables false
set_option linter.unusedSimpArgs false
namespace Go.Proofs.YtffolbdimkhmmaaDoor
open Go Go.RowKit Go.Lib

/-! ### how long is what was read -/
theorem wordsGo_size : ∀ (l cur : List UInt8), (∀ w ∈ wordsGo cur l, w.length ≤ cur.length + l.length) ∧ (wordsGo cur l).length ≤ cur.length + l.length
  | [], cur => by
    rw [wordsGo]
    split
    · exact ⟨fun w hw => (by cases hw), Nat.zero_le _⟩
    · rename_i h
      refine ⟨fun w hw => by rw [List.mem_singleton.1 hw]; omega, ?_⟩
      have := List.length_pos_iff.2 h
      simp only [List.length_singleton, List.length_nil]
      omega
  | c :: r, cur => by
    rw [wordsGo]
    split
    · split
      · obtain ⟨h1, h2⟩ := wordsGo_size r []
        simp only [List.length_nil, Nat.zero_add, List.length_cons] at h1 h2 ⊢
        exact ⟨fun w hw => by have := h1 w hw; omega, by omega⟩
      · rename_i h
        obtain ⟨h1, h2⟩ := wordsGo_size r []
        have := List.length_pos_iff.2 h
        simp only [List.length_nil, Nat.zero_add, List.length_cons] at h1 h2 ⊢
        refine ⟨fun w hw => ?_, by omega⟩
        rcases List.mem_cons.1 hw with rfl | hw
        · omega
        · have := h1 w hw; omega
    · obtain ⟨h1, h2⟩ := wordsGo_size r (cur ++ [c])
      simp only [List.length_append, List.length_cons, List.length_nil, Nat.zero_add] at h1 h2 ⊢
      exact ⟨fun w hw => by have := h1 w hw; omega, by omega⟩
theorem ba_len (s : ByteArray) : s.data.toList.length = s.size := Array.length_toList
theorem lnB_size (l : List UInt8) : (lnB l).size = l.length := by simp [lnB, ByteArray.size]
theorem words_size (s : ByteArray) : (∀ w ∈ wordsB s, w.size ≤ s.size) ∧ (wordsB s).length ≤ s.size := by
  obtain ⟨h1, h2⟩ := wordsGo_size s.data.toList []
  rw [List.length_nil, Nat.zero_add, ba_len] at h1 h2
  unfold wordsB wordsL
  refine ⟨fun w hw => ?_, by rw [List.length_map]; exact h2⟩
  obtain ⟨l, hl, rfl⟩ := List.mem_map.1 hw
  have h3 := h1 l hl
  have h4 : (⟨l.toArray⟩ : ByteArray).size = l.length := lnB_size l
  omega
theorem cuts_size : ∀ (l : List UInt8), ∀ p ∈ cutsL l, p.length ≤ l.length
  | [], p, hp => by rw [cutsL] at hp; rw [List.mem_singleton.1 hp]
                    exact Nat.le_refl _
  | c :: r, p, hp => by
    rw [cutsL] at hp
    split at hp
    · rcases List.mem_cons.1 hp with rfl | hp
      · exact Nat.zero_le _
      · have := cuts_size r p hp
        rw [List.length_cons]; omega
    · split at hp
      · rename_i q qs e
        rcases List.mem_cons.1 hp with rfl | hp
        · have := cuts_size r q (by rw [e]; exact List.mem_cons_self)
          simp only [List.length_cons]; omega
        · have := cuts_size r p (by rw [e]; exact List.mem_cons_of_mem _ hp)
          rw [List.length_cons]; omega
      · rw [List.mem_singleton.1 hp]
        simp only [List.length_cons, List.length_nil]; omega
theorem lines_size (s : ByteArray) : ∀ l ∈ linesB s, l.size ≤ s.size := by
  intro l hl
  unfold linesB at hl
  obtain ⟨p, hp, rfl⟩ := List.mem_map.1 hl
  have h1 := cuts_size _ p hp
  have h2 : (trimNl s.data.toList).length ≤ s.data.toList.length := by
    unfold trimNl
    split
    · rw [List.length_dropLast]; omega
    · exact Nat.le_refl _
  rw [ba_len] at h2
  rw [lnB_size]
  omega
theorem unhexGo_size : ∀ (n : Nat) (l : List UInt8) (acc t : ByteArray), l.length ≤ n → unhexGo acc l = some t → t.size ≤ acc.size + l.length
  | 0, l, acc, t, hn, h => by
    obtain rfl : l = [] := List.length_eq_zero_iff.1 (by omega)
    rw [unhexGo] at h
    injection h with h
    rw [h]; exact Nat.le_add_right _ _
  | n + 1, [], acc, t, hn, h => by
    rw [unhexGo] at h
    injection h with h
    rw [h]; exact Nat.le_add_right _ _
  | n + 1, [a], acc, t, hn, h => by rw [unhexGo] at h; cases h
  | n + 1, a :: b :: r, acc, t, hn, h => by
    rw [unhexGo_cons] at h
    split at h
    · cases h
    · have := unhexGo_size n r _ t (by simp only [List.length_cons] at hn; omega) h
      rw [ByteArray.size_append, show (oneB (16 * unD a + unD b)).size = 1 from rfl] at this
      simp only [List.length_cons]
      omega
theorem text_size {w t : ByteArray} (h : textP w = some t) : t.size ≤ w.size := by
  unfold textP at h
  split at h
  · injection h with h
    rw [← h]; exact Nat.zero_le _
  · split at h
    · split at h
      · injection h with h
        rw [← h]
        unfold tailB
        rw [ByteArray.size_extract]
        omega
      · cases h
    · split at h
      · rename_i h2
        injection h with h
        rw [← h]
        cases hu : unhexGo ⟨#[]⟩ w.data.toList with
        | none => rw [unhexB_none hu]; exact Nat.zero_le _
        | some u =>
          rw [unhexB_some hu]
          have := unhexGo_size _ _ _ _ (Nat.le_refl _) hu
          rw [ba_len, show (⟨#[]⟩ : ByteArray).size = 0 from rfl, Nat.zero_add] at this
          exact this
      · cases h
theorem put_size {c : UInt8} {w : ByteArray} {s x : StP} {M : Nat} (h : putP c w s = some x) (hw : w.size ≤ M) (hs : s.text.size ≤ M) : x.text.size ≤ M ∧ x.keep.length ≤ s.keep.length + 1 := by
  unfold putP at h
  split at h
  · obtain ⟨t, ht, rfl⟩ := Option.map_eq_some_iff.1 h
    have := text_size ht
    exact ⟨by show t.size ≤ M; omega, Nat.le_succ _⟩
  · obtain ⟨n, hn, rfl⟩ := Option.map_eq_some_iff.1 h
    unfold setP
    split
    · exact ⟨hs, Nat.le_succ _⟩
    · split
      · exact ⟨hs, Nat.le_succ _⟩
      · split
        · exact ⟨hs, Nat.le_succ _⟩
        · exact ⟨hs, by show (s.keep ++ [n]).length ≤ _; rw [List.length_append]; exact Nat.le_refl _⟩
theorem keeps_size {M : Nat} : ∀ (ws : List ByteArray) (s x : StP), keepsP ws s = some x → (∀ w ∈ ws, w.size ≤ M) → s.text.size ≤ M → x.text.size ≤ M ∧ x.keep.length ≤ s.keep.length + ws.length
  | [], s, x, h, _, hs => by
    rw [keepsP] at h
    injection h with h
    subst h
    exact ⟨hs, Nat.le_refl _⟩
  | w :: ws, s, x, h, hw, hs => by
    rw [keepsP] at h
    split at h
    · cases h
    · rename_i y hy
      obtain ⟨h1, h2⟩ := put_size hy (hw w (by simp)) hs
      obtain ⟨h3, h4⟩ := keeps_size ws y x h (fun v hv => hw v (by simp [hv])) h1
      exact ⟨h3, by rw [List.length_cons]; omega⟩
theorem fill_size {M : Nat} : ∀ (pl : List UInt8) (ws : List ByteArray) (s x : StP), fillP pl ws s = some x → (∀ w ∈ ws, w.size ≤ M) → s.text.size ≤ M → x.text.size ≤ M ∧ x.keep.length ≤ s.keep.length + ws.length
  | [], [], s, x, h, _, hs => by
    rw [fillP] at h
    injection h with h
    subst h
    exact ⟨hs, Nat.le_refl _⟩
  | [], _ :: _, s, x, h, _, hs => by rw [fillP] at h; cases h
  | c :: pl, ws, s, x, h, hw, hs => by
    rw [fillP_cons] at h
    split at h
    · split at h
      · cases h
      · rename_i y hy
        obtain ⟨h1, h2⟩ := keeps_size ws s y hy hw hs
        obtain ⟨h3, h4⟩ := fill_size pl [] y x h (fun v hv => by cases hv) h1
        exact ⟨h3, by rw [List.length_nil] at h4; omega⟩
    · split at h
      · cases h
      · rename_i w r
        split at h
        · cases h
        · rename_i y hy
          obtain ⟨h1, h2⟩ := put_size hy (hw w (by simp)) hs
          obtain ⟨h3, h4⟩ := fill_size pl r y x h (fun v hv => hw v (by simp [hv])) h1
          exact ⟨h3, by rw [List.length_cons]; omega⟩
theorem step_size {ws : List ByteArray} {x : StP} {M : Nat} (h : stepP ws = some x) (hw : ∀ w ∈ ws, w.size ≤ M) (hl : ws.length ≤ M) : x.text.size ≤ M ∧ x.keep.length ≤ M := by
  cases ws with
  | nil => cases h
  | cons w r =>
    cases hf : formW w with
    | none => rw [stepP, hf] at h; cases h
    | some f =>
      obtain ⟨k, pl⟩ := f
      rw [stepP, hf] at h
      obtain ⟨h1, h2⟩ := fill_size pl r (zst k) x h (fun v hv => hw v (by simp [hv])) (Nat.zero_le _)
      refine ⟨h1, ?_⟩
      rw [List.length_cons] at hl
      have : (zst k).keep.length = 0 := rfl
      omega
theorem go_size {M : Nat} : ∀ (ls : List ByteArray) (i : Nat) (acc : List (StP × Nat)), (∀ l ∈ ls, l.size ≤ M) → (∀ x ∈ acc, x.1.text.size ≤ M ∧ x.1.keep.length ≤ M) →
    (∀ x ∈ (goP i ls acc).1, x.1.text.size ≤ M ∧ x.1.keep.length ≤ M) ∧ (goP i ls acc).1.length ≤ acc.length + ls.length
  | [], i, acc, _, h => ⟨h, Nat.le_refl _⟩
  | l :: ls, i, acc, hl, h => by
    rw [goP_cons]
    have hl2 : ∀ l ∈ ls, l.size ≤ M := fun x hx => hl x (by simp [hx])
    split
    · obtain ⟨h1, h2⟩ := go_size ls (i + 1) acc hl2 h
      exact ⟨h1, by rw [List.length_cons]; omega⟩
    · split
      · exact ⟨fun x hx => (by cases hx), Nat.zero_le _⟩
      · rename_i y hy
        have hlm := hl l (by simp)
        obtain ⟨w1, w2⟩ := words_size l
        have hz := step_size (M := M) hy (fun w hw => Nat.le_trans (w1 w hw) hlm) (Nat.le_trans w2 hlm)
        obtain ⟨h1, h2⟩ := go_size ls (i + 1) (acc ++ [(y, i + 1)]) hl2 (fun x hx => by
          rcases List.mem_append.1 hx with hx | hx
          · exact h x hx
          · rw [List.mem_singleton.1 hx]; exact hz)
        rw [List.length_append, List.length_singleton] at h2
        exact ⟨h1, by rw [List.length_cons]; omega⟩
theorem stsW_le {C : Nat} : ∀ (L : List StP), (∀ x ∈ L, stW x ≤ C) → stsW L ≤ C * L.length
  | [], _ => Nat.zero_le _
  | x :: r, h => by
    have h1 := h x (by simp)
    have h2 := stsW_le r fun y hy => h y (by simp [hy])
    rw [stsW, List.length_cons, Nat.mul_add, Nat.mul_one]
    omega
theorem parse_kind (s : ByteArray) : ∀ x ∈ (parseP s).1, okS x.1 := by
  intro x hx
  obtain ⟨h1, h2, h3⟩ := parse_read s x hx
  refine ⟨h1, ?_⟩
  unfold lineP at h3
  rw [Option.isSome_map] at h3
  obtain ⟨f, hf⟩ := Option.isSome_iff_exists.1 h3
  obtain ⟨-, h4, -⟩ := formK_some hf
  unfold formK at hf
  obtain ⟨g, hg, -⟩ := Option.map_eq_some_iff.1 hf
  have hm := List.mem_of_find?_eq_some hg
  have he : (g.2.1 : Int) = x.1.kind := of_decide_eq_true (List.find?_some (p := fun f : ByteArray × Nat × List UInt8 => decide ((f.2.1 : Int) = x.1.kind)) hg)
  have : ∀ g ∈ formsL, g.2.1 ≤ 18 := by decide +kernel
  have := this g hm
  omega
theorem parse_size (s : ByteArray) : stsW ((parseP s).1.map (·.1)) ≤ 2000000000 := by
  have hs : (∀ x ∈ (parseP s).1, x.1.text.size ≤ 65536 ∧ x.1.keep.length ≤ 65536) ∧ (parseP s).1.length ≤ 1024 := by
    unfold parseP
    split
    · exact ⟨fun x hx => (by cases hx), Nat.zero_le _⟩
    · rename_i hn
      obtain ⟨h1, h2⟩ := go_size (M := 65536) (linesB s) 0 [] (fun l hl => by have := lines_size s l hl; omega) (fun x hx => by cases hx)
      exact ⟨h1, by rw [List.length_nil] at h2; omega⟩
  have h1 := stsW_le (C := 1573064) ((parseP s).1.map (·.1)) fun x hx => by
    obtain ⟨y, hy, rfl⟩ := List.mem_map.1 hx
    have := hs.1 y hy
    unfold stW
    omega
  rw [List.length_map] at h1
  have := hs.2
  omega
end Go.Proofs.YtffolbdimkhmmaaDoor
