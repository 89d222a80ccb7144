import Derived.Test.YtffolbdimkhmmaaDoorScA
set_option linter.unusedVariables false
set_option linter.unusedSimpArgs false
namespace Go.Proofs.YtffolbdimkhmmaaDoor
open Go Go.RowKit Go.Lib


/-! ### words joined are read as words -/
def okW (w : ByteArray) : Prop := w ≠ ⟨#[]⟩ ∧ prB w = true
theorem prB_mem {w : ByteArray} (h : prB w = true) {c : UInt8} (hc : c ∈ w.data.toList) : 33 ≤ c.toNat ∧ c.toNat ≤ 126 := by
  have := List.all_eq_true.1 h c hc
  simpa using this
theorem prB_of {w : ByteArray} (h : ∀ c ∈ w.data.toList, 33 ≤ c.toNat ∧ c.toNat ≤ 126) : prB w = true := by
  unfold prB
  rw [List.all_eq_true]
  intro c hc
  simpa using h c hc
theorem okW_itoa (n : Int) : okW (itoaB n) := by
  refine ⟨fun e => itoa_ne n (by have := congrArg (fun b : ByteArray => b.data.toList) e; simpa [itoaB] using this), prB_of fun c hc => ?_⟩
  have := itoa_all n c (by simpa [itoaB] using hc)
  omega
theorem okW_word (s : ByteArray) : okW (wordP s) := by
  unfold wordP
  by_cases h0 : s = ⟨#[]⟩
  · rw [if_pos h0]; exact ⟨by decide, by decide⟩
  · rw [if_neg h0]
    by_cases hp : prB s = true
    · rw [if_pos hp]
      have hd : (⟨#[39]⟩ ++ s).data.toList = 39 :: s.data.toList := by rw [ba_app]; rfl
      refine ⟨(fun e => by have := congrArg (fun b : ByteArray => b.data.toList) e; simp only [hd] at this; cases this), prB_of fun c hc => ?_⟩
      rw [hd] at hc
      rcases List.mem_cons.1 hc with rfl | h
      · decide
      · exact prB_mem hp h
    · rw [if_neg hp]
      refine ⟨hex_ne h0, prB_of fun c hc => ?_⟩
      have := hexL_all _ c (by simpa [hexB] using hc)
      omega
theorem okW_tell (pl : List UInt8) (x : StP) : ∀ w ∈ tellP pl x, okW w := by
  intro w hw
  unfold tellP at hw
  obtain ⟨c, _, hc⟩ := List.mem_flatMap.1 hw
  unfold tellC at hc
  split at hc
  · rw [List.mem_singleton.1 hc]; exact okW_word _
  · split at hc
    · obtain ⟨n, _, rfl⟩ := List.mem_map.1 hc; exact okW_itoa n
    · rw [List.mem_singleton.1 hc]; exact okW_itoa _
theorem okW_name {k : Int} {f : ByteArray × List UInt8} (h : formK k = some f) : okW f.1 ∧ f.1.data.toList.head? ≠ some 35 := by
  unfold formK at h
  obtain ⟨g, hg, rfl⟩ := Option.map_eq_some_iff.1 h
  have hm := List.mem_of_find?_eq_some hg
  have : ∀ g ∈ formsL, g.1 ≠ ⟨#[]⟩ ∧ prB g.1 = true ∧ g.1.data.toList.head? ≠ some 35 := by decide +kernel
  obtain ⟨h1, h2, h3⟩ := this g hm
  exact ⟨⟨h1, h2⟩, h3⟩
theorem words_tail : ∀ (r : List (List UInt8)) (cur : List UInt8), cur ≠ [] → (∀ w ∈ r, w ≠ [] ∧ ∀ c ∈ w, c ≠ 32) → wordsGo cur (joinTail [32] r) = cur :: r
  | [], cur, hc, _ => by
    show wordsGo cur [] = _
    rw [wordsGo, if_neg hc]
  | y :: r, cur, hc, h => by
    have hy := h y (by simp)
    have e : joinTail [32] (y :: r) = 32 :: (y ++ joinTail [32] r) := by simp [joinTail]
    rw [e, wordsGo, if_pos rfl, if_neg hc, wordsGo_app y _ [] hy.2, List.nil_append, words_tail r y hy.1 (fun w hw => h w (by simp [hw]))]
theorem words_join (x : List UInt8) (r : List (List UInt8)) (h : ∀ w ∈ x :: r, w ≠ [] ∧ ∀ c ∈ w, c ≠ 32) : wordsL (Lib.join (x :: r) [32]) = x :: r := by
  have hx := h x (by simp)
  rw [Lib.join_cons, wordsL, wordsGo_app x _ [] hx.2, List.nil_append]
  exact words_tail r x hx.1 fun w hw => h w (by simp [hw])
theorem okW_list {w : ByteArray} (h : okW w) : w.data.toList ≠ [] ∧ ∀ c ∈ w.data.toList, c ≠ 32 := by
  refine ⟨fun e => h.1 (ba_ext e), fun c hc e => ?_⟩
  have := prB_mem h.2 hc
  rw [e] at this
  have h32 : (32 : UInt8).toNat = 32 := rfl
  omega
theorem lnB_data (l : List UInt8) : (lnB l).data.toList = l := rfl
theorem words_line (ws : List ByteArray) (hne : ws ≠ []) (h : ∀ w ∈ ws, okW w) : wordsB (lnB (Lib.join (ws.map (·.data.toList)) [32])) = ws := by
  cases ws with
  | nil => exact absurd rfl hne
  | cons x r =>
    unfold wordsB
    rw [lnB_data, List.map_cons, words_join]
    · rw [← List.map_cons (f := fun w : ByteArray => w.data.toList), List.map_map]
      conv => rhs; rw [← List.map_id (x :: r)]
      exact List.map_congr_left fun w _ => ba_ext rfl
    · rw [← List.map_cons (f := fun w : ByteArray => w.data.toList)]
      intro w hw
      obtain ⟨v, hv, rfl⟩ := List.mem_map.1 hw
      exact okW_list (h v hv)
theorem join_clean : ∀ (r : List (List UInt8)), (∀ w ∈ r, ∀ c ∈ w, c ≠ 10) → ∀ c ∈ joinTail [32] r, c ≠ 10
  | [], _, c, hc => by simp [joinTail] at hc
  | y :: r, h, c, hc => by
    have e : joinTail [32] (y :: r) = 32 :: (y ++ joinTail [32] r) := by simp [joinTail]
    rw [e] at hc
    rcases List.mem_cons.1 hc with rfl | hc
    · decide
    · rcases List.mem_append.1 hc with hc | hc
      · exact h y (by simp) c hc
      · exact join_clean r (fun w hw => h w (by simp [hw])) c hc
theorem line_clean (ws : List ByteArray) (h : ∀ w ∈ ws, okW w) : ∀ c ∈ Lib.join (ws.map (·.data.toList)) [32], c ≠ 10 := by
  have h10 : (10 : UInt8).toNat = 10 := rfl
  have hw : ∀ w ∈ ws, ∀ c ∈ w.data.toList, c ≠ 10 := fun w hw c hc e => by
    have := prB_mem (h w hw).2 hc
    rw [e] at this
    omega
  cases ws with
  | nil => intro c hc; cases hc
  | cons x r =>
    rw [List.map_cons, Lib.join_cons]
    intro c hc
    rcases List.mem_append.1 hc with hc | hc
    · exact hw x (by simp) c hc
    · refine join_clean _ (fun w hw' => ?_) c hc
      obtain ⟨v, hv, rfl⟩ := List.mem_map.1 hw'
      exact hw v (by simp [hv])

/-! ### lines -/
def nlsL (L : List (List UInt8)) : List UInt8 := L.flatMap fun l => l ++ [10]
theorem trim_app (x r : List UInt8) (h : r ≠ []) : trimNl (x ++ r) = x ++ trimNl r := by
  unfold trimNl
  have e : (x ++ r).getLast? = r.getLast? := by
    rw [List.getLast?_append]
    cases hr : r.getLast? with
    | none => exact absurd (List.getLast?_eq_none_iff.1 hr) h
    | some y => rfl
  rw [e]
  split
  · rw [List.dropLast_append_of_ne_nil h]
  · rfl
theorem trim_clean {p : List UInt8} (h : ∀ c ∈ p, c ≠ 10) : trimNl p = p := by
  unfold trimNl
  rw [if_neg]
  intro e
  exact h 10 (List.mem_of_getLast? e) rfl
theorem trim_one (p : List UInt8) : trimNl (p ++ [10]) = p := by
  rw [trim_app p [10] (by simp)]
  show p ++ [] = p
  rw [List.append_nil]
theorem cuts_trim_cons (l r : List UInt8) (hl : ∀ c ∈ l, c ≠ 10) (hr : r ≠ []) : cutsL (trimNl (l ++ 10 :: r)) = l :: cutsL (trimNl r) := by
  rw [show l ++ 10 :: r = (l ++ [10]) ++ r by simp, trim_app _ _ hr, List.append_assoc]
  exact cutsL_app l _ hl
theorem cuts_trim : ∀ (L : List (List UInt8)), L ≠ [] → (∀ l ∈ L, ∀ c ∈ l, c ≠ 10) → cutsL (trimNl (nlsL L)) = L
  | [], h, _ => absurd rfl h
  | [l], _, h => by
    show cutsL (trimNl ((l ++ [10]) ++ [])) = _
    rw [List.append_nil, trim_one, cutsL_clean l (h l (by simp))]
  | l :: m :: L, _, h => by
    have e : nlsL (l :: m :: L) = l ++ 10 :: nlsL (m :: L) := by simp [nlsL]
    rw [e, cuts_trim_cons l _ (h l (by simp)) (by simp [nlsL]), cuts_trim (m :: L) (by simp) (fun x hx => h x (by simp [hx]))]
theorem goP_cons (i : Nat) (l : ByteArray) (r : List ByteArray) (acc : List (StP × Nat)) : goP i (l :: r) acc = if ignor (wordsB l) = true then goP (i + 1) r acc else match stepP (wordsB l) with
    | none => ([], i + 1, 16)
    | some x => goP (i + 1) r (acc ++ [(x, i + 1)]) := by rw [goP]; rfl

theorem tells_go : ∀ (l : List StP) (i : Nat) (acc : ByteArray), (∀ x ∈ l, x.inR) → (tellsP i l acc).2.2 = 0 →
    ∃ L : List (List UInt8), L.length = l.length ∧ (tellsP i l acc).1.data.toList = acc.data.toList ++ nlsL L ∧ (tellsP i l acc).2.1 = 0 ∧ (∀ x ∈ L, ∀ c ∈ x, c ≠ 10) ∧
      ∀ k accs, ∃ r, goP k (L.map lnB) accs = (accs ++ r, 0, 0) ∧ r.map (·.1) = l.map bareP
  | [], i, acc, _, _ => ⟨[], rfl, by simp [tellsP, nlsL], rfl, (fun x hx => by cases hx), fun k accs => ⟨[], by simp [goP], rfl⟩⟩
  | x :: l, i, acc, hx, h => by
    unfold tellsP at h
    cases hl : lineP x with
    | none => rw [hl] at h; simp at h
    | some b =>
      rw [hl] at h
      simp only [] at h
      obtain ⟨L, h1, h2, h3, h4, h5⟩ := tells_go l (i + 1) (acc ++ b) (fun y hy => hx y (by simp [hy])) h
      unfold lineP at hl
      obtain ⟨f, hf, rfl⟩ := Option.map_eq_some_iff.1 hl
      have hok : ∀ w ∈ f.1 :: tellP f.2 x, okW w := by
        intro w hw
        rcases List.mem_cons.1 hw with rfl | hw
        · exact (okW_name hf).1
        · exact okW_tell _ _ w hw
      have e0 : tellsP i (x :: l) acc = tellsP (i + 1) l (acc ++ lineB (f.1 :: tellP f.2 x)) := by
        rw [tellsP]
        unfold lineP
        rw [hf]
        rfl
      refine ⟨Lib.join ((f.1 :: tellP f.2 x).map (·.data.toList)) [32] :: L, by simp [h1], ?_, by rw [e0]; exact h3, ?_, ?_⟩
      · rw [e0, h2, ba_app]
        simp [lineB, nlsL]
      · intro y hy
        rcases List.mem_cons.1 hy with rfl | hy
        · exact line_clean _ hok
        · exact h4 y hy
      · intro k accs
        obtain ⟨r, hr, hr2⟩ := h5 (k + 1) (accs ++ [(bareP x, k + 1)])
        refine ⟨(bareP x, k + 1) :: r, ?_, by simp [hr2]⟩
        rw [List.map_cons, goP_cons, words_line _ (by simp) hok, step_tell x (hx x (by simp)) hf, if_neg]
        · simp only []
          rw [hr]
          simp
        · unfold ignor
          simp only [decide_eq_true_eq]
          exact (okW_name hf).2
theorem size_data (s : ByteArray) : s.size = s.data.toList.length := Array.length_toList.symm
theorem lines_nls (s : ByteArray) (L : List (List UInt8)) (hL : L ≠ []) (hs : s.data.toList = nlsL L) (hc : ∀ x ∈ L, ∀ c ∈ x, c ≠ 10) : linesB s = L.map lnB := by
  unfold linesB
  rw [hs, cuts_trim L hL hc]
theorem lines_nil : linesB ⟨#[]⟩ = [⟨#[]⟩] := by decide +kernel
theorem parse_nil : parseP ⟨#[]⟩ = ([], 0, 0) := by
  unfold parseP
  rw [lines_nil, if_neg (by decide), goP_cons, if_pos (by decide +kernel)]
  rfl
/-- what is told is read, as far as its lines tell it. -/
theorem parse_texts (l : List StP) (hl : ∀ x ∈ l, x.inR) (h : (textsP l).2.2 = 0) : ∃ r, parseP (textsP l).1 = (r, 0, 0) ∧ r.map (·.1) = l.map bareP := by
  have ht : (tellsP 0 l ⟨#[]⟩).2.2 = 0 ∧ textsP l = ((tellsP 0 l ⟨#[]⟩).1, 0, 0) ∧ (tellsP 0 l ⟨#[]⟩).1.size ≤ 65536 ∧ l.length ≤ 1024 := by
    unfold textsP at h ⊢
    generalize tellsP 0 l ⟨#[]⟩ = t at h
    obtain ⟨b, n, e⟩ := t
    simp only [] at h ⊢
    by_cases he : e ≠ 0
    · rw [if_pos he] at h; exact absurd h he
    · rw [if_neg he] at h ⊢
      by_cases hb : 65536 < b.size ∨ 1024 < l.length
      · rw [if_pos hb] at h; simp at h
      · rw [if_neg hb]
        exact ⟨by omega, rfl, by omega, by omega⟩
  obtain ⟨h1, h2, h3, h4⟩ := ht
  rw [h2]
  obtain ⟨L, g1, g2, g3, g4, g5⟩ := tells_go l 0 ⟨#[]⟩ hl h1
  generalize (tellsP 0 l ⟨#[]⟩).1 = b at h3 g2
  show ∃ r, parseP b = (r, 0, 0) ∧ _
  have g2' : b.data.toList = nlsL L := by rw [g2]; simp
  by_cases hL : L = []
  · subst hL
    have hb : b = ⟨#[]⟩ := ba_ext (by rw [g2']; rfl)
    obtain rfl : l = [] := List.length_eq_zero_iff.1 g1.symm
    rw [hb, parse_nil]
    exact ⟨[], rfl, rfl⟩
  · obtain ⟨r, hr, hr2⟩ := g5 0 []
    refine ⟨r, ?_, hr2⟩
    unfold parseP
    rw [lines_nls b L hL g2' g4, if_neg, hr, List.nil_append]
    rw [List.length_map]
    omega


/-! ### what is read is told, and read as the same -/
theorem StP.same {x y : StP} (h1 : x.kind = y.kind) (h2 : x.a = y.a) (h3 : x.b = y.b) (h4 : x.n = y.n) (h5 : x.text = y.text) (h6 : x.keep = y.keep) : x = y := by
  cases x; cases y; simp_all
/-- what a place's word turns. -/
structure Fills (pl : List UInt8) (o x : StP) : Prop where
  kind : x.kind = o.kind
  a : 65 ∉ pl → x.a = o.a
  b : 66 ∉ pl → x.b = o.b
  n : 78 ∉ pl → x.n = o.n
  text : 84 ∉ pl → x.text = o.text
  keep : 75 ∉ pl → x.keep = o.keep
  inR : o.inR → x.inR
theorem num_range {w : ByteArray} {n : Int} (h : numP w = some n) : -9223372036854775808 ≤ n ∧ n ≤ 9223372036854775807 := (numL_some h).2
theorem put_fills (c : UInt8) (hc : c = 65 ∨ c = 66 ∨ c = 78 ∨ c = 84 ∨ c = 75) (w : ByteArray) (o x : StP) (h : putP c w o = some x) : Fills [c] o x := by
  unfold putP at h
  rcases hc with rfl | rfl | rfl | rfl | rfl
  · rw [if_neg (by decide)] at h
    obtain ⟨n, hn, rfl⟩ := Option.map_eq_some_iff.1 h
    have := num_range hn
    exact ⟨rfl, fun h => absurd (by simp) h, fun _ => rfl, fun _ => rfl, fun _ => rfl, fun _ => rfl, fun hi => ⟨this, hi.2.1, hi.2.2.1, hi.2.2.2⟩⟩
  · rw [if_neg (by decide)] at h
    obtain ⟨n, hn, rfl⟩ := Option.map_eq_some_iff.1 h
    have := num_range hn
    exact ⟨rfl, fun _ => rfl, fun h => absurd (by simp) h, fun _ => rfl, fun _ => rfl, fun _ => rfl, fun hi => ⟨hi.1, this, hi.2.2.1, hi.2.2.2⟩⟩
  · rw [if_neg (by decide)] at h
    obtain ⟨n, hn, rfl⟩ := Option.map_eq_some_iff.1 h
    have := num_range hn
    exact ⟨rfl, fun _ => rfl, fun _ => rfl, fun h => absurd (by simp) h, fun _ => rfl, fun _ => rfl, fun hi => ⟨hi.1, hi.2.1, this, hi.2.2.2⟩⟩
  · rw [if_pos rfl] at h
    obtain ⟨t, ht, rfl⟩ := Option.map_eq_some_iff.1 h
    exact ⟨rfl, fun _ => rfl, fun _ => rfl, fun _ => rfl, fun h => absurd (by simp) h, fun _ => rfl, fun hi => hi⟩
  · rw [if_neg (by decide)] at h
    obtain ⟨n, hn, rfl⟩ := Option.map_eq_some_iff.1 h
    have := num_range hn
    refine ⟨rfl, fun _ => rfl, fun _ => rfl, fun _ => rfl, fun _ => rfl, fun h => absurd (by simp) h, fun hi => ⟨hi.1, hi.2.1, hi.2.2.1, fun y hy => ?_⟩⟩
    rcases List.mem_append.1 hy with hy | hy
    · exact hi.2.2.2 y hy
    · rw [List.mem_singleton.1 hy]; exact this
theorem Fills.refl (pl : List UInt8) (o : StP) : Fills pl o o := ⟨rfl, fun _ => rfl, fun _ => rfl, fun _ => rfl, fun _ => rfl, fun _ => rfl, fun h => h⟩
theorem Fills.trans {pl ql : List UInt8} {o x y : StP} (h : Fills pl o x) (k : Fills ql x y) : Fills (pl ++ ql) o y :=
  ⟨k.kind.trans h.kind, fun hn => (k.a (fun m => hn (by simp [m]))).trans (h.a (fun m => hn (by simp [m]))), fun hn => (k.b (fun m => hn (by simp [m]))).trans (h.b (fun m => hn (by simp [m]))),
    fun hn => (k.n (fun m => hn (by simp [m]))).trans (h.n (fun m => hn (by simp [m]))), fun hn => (k.text (fun m => hn (by simp [m]))).trans (h.text (fun m => hn (by simp [m]))),
    fun hn => (k.keep (fun m => hn (by simp [m]))).trans (h.keep (fun m => hn (by simp [m]))), fun hi => k.inR (h.inR hi)⟩
theorem Fills.mono {pl ql : List UInt8} {o x : StP} (h : Fills pl o x) (hs : ∀ c ∈ pl, c ∈ ql) : Fills ql o x :=
  ⟨h.kind, fun hn => h.a fun m => hn (hs _ m), fun hn => h.b fun m => hn (hs _ m), fun hn => h.n fun m => hn (hs _ m), fun hn => h.text fun m => hn (hs _ m), fun hn => h.keep fun m => hn (hs _ m), h.inR⟩
theorem keeps_fills : ∀ (ws : List ByteArray) (o x : StP), keepsP ws o = some x → Fills [75] o x
  | [], o, x, h => by obtain rfl := Option.some.inj h; exact Fills.refl _ _
  | w :: ws, o, x, h => by
    unfold keepsP at h
    cases hp : putP 75 w o with
    | none => rw [hp] at h; cases h
    | some s =>
      rw [hp] at h
      exact ((put_fills 75 (by simp) w o s hp).trans (keeps_fills ws s x h)).mono (by simp)
theorem fill_fills : ∀ (pl : List UInt8) (ws : List ByteArray) (o x : StP), okPl pl = true → fillP pl ws o = some x → Fills pl o x
  | [], ws, o, x, _, h => by
    cases ws with
    | nil => obtain rfl := Option.some.inj h; exact Fills.refl _ _
    | cons w ws => cases h
  | c :: pl, ws, o, x, hk, h => by
    rw [fillP_cons] at h
    unfold okPl at hk
    by_cases h75 : c = 75
    · subst h75
      rw [if_pos rfl] at h hk
      obtain rfl : pl = [] := by cases pl with | nil => rfl | cons d r => simp at hk
      cases hp : keepsP ws o with
      | none => rw [hp] at h; cases h
      | some s =>
        rw [hp] at h
        obtain rfl := Option.some.inj h
        exact keeps_fills ws o _ hp
    · rw [if_neg h75] at h hk
      simp only [Bool.and_eq_true, decide_eq_true_eq] at hk
      cases ws with
      | nil => cases h
      | cons w r =>
        simp only [] at h
        cases hp : putP c w o with
        | none => rw [hp] at h; cases h
        | some s =>
          rw [hp] at h
          exact (put_fills c (by rcases hk.1 with h | h | h | h <;> simp [h]) w o s hp).trans (fill_fills pl r s x hk.2 h)
theorem bare_fold (s : StP) : ∀ (pl : List UInt8) (o : StP), (∀ c ∈ pl, c = 65 ∨ c = 66 ∨ c = 78 ∨ c = 84 ∨ c = 75) →
    pl.foldl (fun o c => bareC c s o) o = ⟨o.kind, if 65 ∈ pl then s.a else o.a, if 66 ∈ pl then s.b else o.b, if 78 ∈ pl then s.n else o.n, if 84 ∈ pl then s.text else o.text, if 75 ∈ pl then s.keep else o.keep⟩
  | [], o, _ => by simp
  | c :: pl, o, h => by
    rw [List.foldl_cons, bare_fold s pl _ (fun d hd => h d (by simp [hd]))]
    rcases h c (by simp) with rfl | rfl | rfl | rfl | rfl <;> unfold bareC <;> refine StP.same ?_ ?_ ?_ ?_ ?_ ?_ <;> simp
theorem okPl_mem : ∀ (pl : List UInt8), okPl pl = true → ∀ c ∈ pl, c = 65 ∨ c = 66 ∨ c = 78 ∨ c = 84 ∨ c = 75
  | [], _, c, h => by cases h
  | d :: pl, hk, c, h => by
    unfold okPl at hk
    by_cases h75 : d = 75
    · rw [if_pos h75] at hk
      obtain rfl : pl = [] := by cases pl with | nil => rfl | cons d r => simp at hk
      rw [List.mem_singleton.1 h, h75]; simp
    · rw [if_neg h75] at hk
      simp only [Bool.and_eq_true, decide_eq_true_eq] at hk
      rcases List.mem_cons.1 h with rfl | h
      · rcases hk.1 with h | h | h | h <;> simp [h]
      · exact okPl_mem pl hk.2 c h
theorem formW_some {w : ByteArray} {k : Nat} {pl : List UInt8} (h : formW w = some (k, pl)) : formK (k : Int) = some (w, pl) ∧ okPl pl = true := by
  unfold formW at h
  obtain ⟨g, hg, he⟩ := Option.map_eq_some_iff.1 h
  have hm := List.mem_of_find?_eq_some hg
  have hw := List.find?_some hg
  have hw := of_decide_eq_true hw
  have : ∀ g ∈ formsL, formK (g.2.1 : Int) = some (g.1, g.2.2) ∧ okPl g.2.2 = true := by decide +kernel
  obtain ⟨h1, h2⟩ := this g hm
  rw [he, hw] at h1
  rw [he] at h2
  exact ⟨h1, h2⟩
theorem zst_inR (k : Int) : (zst k).inR := ⟨(by show (-9223372036854775808 : Int) ≤ 0 ∧ (0 : Int) ≤ 9223372036854775807; omega), (by show (-9223372036854775808 : Int) ≤ 0 ∧ (0 : Int) ≤ 9223372036854775807; omega), (by show (-9223372036854775808 : Int) ≤ 0 ∧ (0 : Int) ≤ 9223372036854775807; omega), fun x hx => by cases hx⟩
/-- what stands in a step that was read. -/
theorem step_read {ws : List ByteArray} {x : StP} (h : stepP ws = some x) : x.inR ∧ bareP x = x ∧ (lineP x).isSome := by
  cases ws with
  | nil => cases h
  | cons w r =>
    cases hw : formW w with
    | none => rw [stepP, hw] at h; cases h
    | some f =>
      obtain ⟨k, pl⟩ := f
      rw [stepP, hw] at h
      simp only [] at h
      obtain ⟨h1, h2⟩ := formW_some hw
      have F := fill_fills pl r (zst k) x h2 h
      have hk : x.kind = (k : Int) := F.kind
      have hf : formK x.kind = some (w, pl) := by rw [hk]; exact h1
      refine ⟨F.inR (zst_inR _), ?_, by unfold lineP; rw [hf]; rfl⟩
      unfold bareP
      rw [hf]
      simp only []
      rw [bare_fold x pl _ (okPl_mem pl h2)]
      refine StP.same rfl ?_ ?_ ?_ ?_ ?_
      · show (if 65 ∈ pl then x.a else (0 : Int)) = x.a
        split
        · rfl
        · rename_i hn; exact (F.a hn).symm
      · show (if 66 ∈ pl then x.b else (0 : Int)) = x.b
        split
        · rfl
        · rename_i hn; exact (F.b hn).symm
      · show (if 78 ∈ pl then x.n else (0 : Int)) = x.n
        split
        · rfl
        · rename_i hn; exact (F.n hn).symm
      · show (if 84 ∈ pl then x.text else (⟨#[]⟩ : ByteArray)) = x.text
        split
        · rfl
        · rename_i hn; exact (F.text hn).symm
      · show (if 75 ∈ pl then x.keep else ([] : List Int)) = x.keep
        split
        · rfl
        · rename_i hn; exact (F.keep hn).symm
theorem go_read : ∀ (ls : List ByteArray) (i : Nat) (acc : List (StP × Nat)), (∀ x ∈ acc, x.1.inR ∧ bareP x.1 = x.1 ∧ (lineP x.1).isSome) → ∀ x ∈ (goP i ls acc).1, x.1.inR ∧ bareP x.1 = x.1 ∧ (lineP x.1).isSome
  | [], i, acc, h => h
  | l :: ls, i, acc, h => by
    rw [goP_cons]
    split
    · exact go_read ls (i + 1) acc h
    · split
      · intro x hx; cases hx
      · rename_i y hy
        refine go_read ls (i + 1) _ fun x hx => ?_
        rcases List.mem_append.1 hx with hx | hx
        · exact h x hx
        · rw [List.mem_singleton.1 hx]; exact step_read hy
theorem parse_read (s : ByteArray) : ∀ x ∈ (parseP s).1, x.1.inR ∧ bareP x.1 = x.1 ∧ (lineP x.1).isSome := by
  unfold parseP
  split
  · intro x hx; cases hx
  · exact go_read _ 0 [] (fun x hx => by cases hx)
theorem tells_ok : ∀ (l : List StP) (i : Nat) (acc : ByteArray), (∀ x ∈ l, (lineP x).isSome) → (tellsP i l acc).2.2 = 0
  | [], i, acc, _ => rfl
  | x :: l, i, acc, h => by
    unfold tellsP
    cases hl : lineP x with
    | none => have := h x (by simp); rw [hl] at this; cases this
    | some b => exact tells_ok l (i + 1) _ fun y hy => h y (by simp [hy])
theorem texts_cases (l : List StP) (h : ∀ x ∈ l, (lineP x).isSome) : (textsP l).2.2 = 0 ∨ ((textsP l).2.2 = 4 ∧ (textsP l).1 = ⟨#[]⟩) := by
  unfold textsP
  have := tells_ok l 0 ⟨#[]⟩ h
  generalize tellsP 0 l ⟨#[]⟩ = t at this
  obtain ⟨b, n, e⟩ := t
  simp only [] at this ⊢
  rw [if_neg (by simpa using this)]
  by_cases hb : 65536 < b.size ∨ 1024 < l.length
  · rw [if_pos hb]; exact .inr ⟨rfl, rfl⟩
  · rw [if_neg hb]; exact .inl rfl
/-- what is read is written, and read as the same. -/
theorem parse_back (s : ByteArray) : (textsP ((parseP s).1.map (·.1))).2.2 = 4 ∧ (textsP ((parseP s).1.map (·.1))).1 = ⟨#[]⟩ ∨
    (textsP ((parseP s).1.map (·.1))).2.2 = 0 ∧ (parseP (textsP ((parseP s).1.map (·.1))).1).2.2 = 0 ∧ (parseP (textsP ((parseP s).1.map (·.1))).1).1.map (·.1) = (parseP s).1.map (·.1) := by
  have hr := parse_read s
  generalize (parseP s).1 = l at hr
  have hr2 : ∀ x ∈ l.map (·.1), x.inR ∧ bareP x = x ∧ (lineP x).isSome := by
    intro x hx
    obtain ⟨y, hy, rfl⟩ := List.mem_map.1 hx
    exact hr y hy
  rcases texts_cases (l.map (·.1)) (fun x hx => (hr2 x hx).2.2) with h | h
  · obtain ⟨r, h1, h2⟩ := parse_texts (l.map (·.1)) (fun x hx => (hr2 x hx).1) h
    refine .inr ⟨h, by rw [h1], ?_⟩
    rw [h1]
    simp only []
    rw [h2]
    conv => rhs; rw [← List.map_id (l.map (·.1))]
    exact List.map_congr_left fun x hx => (hr2 x hx).2.1
  · exact .inl h
theorem parse_bad (s : ByteArray) (h : (parseP s).2.2 ≠ 0) : (parseP s).1 = [] := by
  unfold parseP at h ⊢
  split
  · rfl
  · rename_i hn
    rw [if_neg hn] at h
    have : ∀ (ls : List ByteArray) (i : Nat) (acc : List (StP × Nat)), (goP i ls acc).2.2 ≠ 0 → (goP i ls acc).1 = [] := by
      intro ls
      induction ls with
      | nil => intro i acc h; exact absurd rfl h
      | cons l ls ih =>
        intro i acc h
        rw [goP_cons] at h ⊢
        split
        · rename_i hi; rw [if_pos hi] at h; exact ih _ _ h
        · rename_i hi
          rw [if_neg hi] at h
          split
          · rfl
          · rename_i x hx; rw [hx] at h; exact ih _ _ h
    exact this _ _ _ h
theorem texts_bad (l : List StP) (h : (textsP l).2.2 ≠ 0) : (textsP l).1 = ⟨#[]⟩ := by
  unfold textsP at h ⊢
  generalize tellsP 0 l ⟨#[]⟩ = t at h
  obtain ⟨b, n, e⟩ := t
  simp only [] at h ⊢
  split
  · rfl
  · rename_i he
    rw [if_neg he] at h
    split
    · rfl
    · rename_i hb; rw [if_neg hb] at h; exact absurd rfl h

/-! ### blanks more -/
theorem wordsGo_two : ∀ (p q cur : List UInt8), wordsGo cur (p ++ 32 :: 32 :: q) = wordsGo cur (p ++ 32 :: q)
  | [], q, cur => by
    rw [List.nil_append, List.nil_append, wordsGo, if_pos rfl, wordsGo.eq_2 cur, if_pos rfl]
    have e : wordsGo [] (32 :: q) = wordsGo [] q := by rw [wordsGo, if_pos rfl, if_pos rfl]
    rw [e]
  | c :: p, q, cur => by
    rw [List.cons_append, List.cons_append, wordsGo, wordsGo.eq_2 cur]
    split
    · rw [wordsGo_two p q []]
    · rw [wordsGo_two p q _]
theorem wordsGo_end : ∀ (p cur : List UInt8), wordsGo cur (p ++ [32]) = wordsGo cur p
  | [], cur => by
    have e1 : wordsGo cur [32] = if cur = [] then wordsGo [] [] else cur :: wordsGo [] [] := rfl
    have e2 : wordsGo [] [] = [] := rfl
    rw [List.nil_append, e1, e2]
    rfl
  | c :: p, cur => by
    rw [List.cons_append, wordsGo, wordsGo.eq_2 cur]
    split
    · rw [wordsGo_end p []]
    · rw [wordsGo_end p _]
def Eqv (p p' : List UInt8) : Prop := ∀ q, wordsL (p ++ q) = wordsL (p' ++ q)
theorem Eqv.refl (p : List UInt8) : Eqv p p := fun _ => rfl
theorem Eqv.snoc {p p' : List UInt8} (h : Eqv p p') (c : UInt8) : Eqv (p ++ [c]) (p' ++ [c]) := fun q => by
  rw [List.append_assoc, List.append_assoc]; exact h _
theorem Eqv.more {p p' : List UInt8} (h : Eqv p p') : Eqv (p ++ [32]) (p' ++ [32, 32] ++ [32]) := fun q => by
  rw [List.append_assoc, List.append_assoc, List.append_assoc]
  show wordsL (p ++ 32 :: q) = wordsL (p' ++ 32 :: 32 :: 32 :: q)
  unfold wordsL
  rw [wordsGo_two, wordsGo_two]
  exact h _
inductive Loose : List ByteArray → List ByteArray → Prop
  | nil : Loose [] []
  | cons (l l' : ByteArray) (r r' : List ByteArray) : wordsB l = wordsB l' → Loose r r' → Loose (l :: r) (l' :: r')
  | skip (l' : ByteArray) (r r' : List ByteArray) : ignor (wordsB l') = true → Loose r r' → Loose r (l' :: r')
theorem Loose.len {r r' : List ByteArray} (h : Loose r r') : r.length ≤ r'.length := by
  induction h with
  | nil => exact Nat.le_refl _
  | cons _ _ _ _ _ _ ih => simpa using ih
  | skip _ _ _ _ _ ih => simp only [List.length_cons]; omega
theorem Loose.go {ls ls' : List ByteArray} (h : Loose ls ls') : ∀ (i j : Nat) (acc acc' : List (StP × Nat)), acc.map (·.1) = acc'.map (·.1) →
    (goP i ls acc).1.map (·.1) = (goP j ls' acc').1.map (·.1) ∧ (goP i ls acc).2.2 = (goP j ls' acc').2.2 := by
  induction h with
  | nil => intro i j acc acc' h; exact ⟨h, rfl⟩
  | cons l l' r r' hw _ ih =>
    intro i j acc acc' h
    rw [goP_cons, goP_cons, hw]
    split
    · exact ih _ _ _ _ h
    · split
      · exact ⟨rfl, rfl⟩
      · exact ih _ _ _ _ (by simp [h])
  | skip l' r r' hi _ ih =>
    intro i j acc acc' h
    rw [goP_cons j, if_pos hi]
    exact ih _ _ _ _ h
def gapN (gaps : List UInt8) (k : Nat) : Nat := (gaps.getD (k % gaps.length) 0).toNat % 3
def pre (g : Nat) (c : UInt8) : List UInt8 := (if g = 1 then [32, 32] else []) ++ (if c = 10 ∧ g = 2 then [10, 35, 32, 102, 108, 121, 10, 32, 32] else [])
def looseL (gaps : List UInt8) : Nat → List UInt8 → List UInt8
  | _, [] => []
  | k, c :: r => if (c = 10 ∨ c = 32) ∧ gaps ≠ [] then pre (gapN gaps k) c ++ c :: looseL gaps (k + 1) r else c :: looseL gaps k r
theorem loose_ne (gaps : List UInt8) (k : Nat) (r : List UInt8) (h : r ≠ []) : looseL gaps k r ≠ [] := by
  cases r with
  | nil => exact absurd rfl h
  | cons c r => unfold looseL; split <;> simp
theorem loose_len (gaps : List UInt8) : ∀ (r : List UInt8) (k : Nat), r.length ≤ (looseL gaps k r).length
  | [], k => Nat.le_refl _
  | c :: r, k => by
    unfold looseL
    split
    · have := loose_len gaps r (k + 1); simp only [List.length_append, List.length_cons]; omega
    · have := loose_len gaps r k; simp only [List.length_cons]; omega
theorem words_of {p p' : List UInt8} (h : Eqv p p') : wordsB (lnB p) = wordsB (lnB p') := by
  have := h []
  rw [List.append_nil, List.append_nil] at this
  unfold wordsB
  rw [lnB_data, lnB_data, this]
theorem words_of2 {p p' : List UInt8} (h : Eqv p p') : wordsB (lnB p) = wordsB (lnB (p' ++ [32, 32])) := by
  have := h []
  rw [List.append_nil, List.append_nil] at this
  unfold wordsB
  rw [lnB_data, lnB_data, this]
  unfold wordsL
  rw [show p' ++ [32, 32] = (p' ++ [32]) ++ [32] by simp, wordsGo_end, wordsGo_end]
def flyL : List UInt8 := [35, 32, 102, 108, 121]
theorem fly_ig : ignor (wordsB (lnB flyL)) = true := by decide +kernel
theorem two_ig : ignor (wordsB (lnB [32, 32])) = true := by decide +kernel
theorem snoc_clean {p : List UInt8} (h : ∀ c ∈ p, c ≠ 10) {c : UInt8} (hc : c ≠ 10) : ∀ d ∈ p ++ [c], d ≠ 10 := fun d hd => by
  rcases List.mem_append.1 hd with hd | hd
  · exact h d hd
  · rw [List.mem_singleton.1 hd]; exact hc
theorem two_clean {p : List UInt8} (h : ∀ c ∈ p, c ≠ 10) : ∀ d ∈ p ++ [32, 32], d ≠ 10 := by
  rw [show p ++ [32, 32] = (p ++ [32]) ++ [32] by simp]
  exact snoc_clean (snoc_clean h (by decide)) (by decide)
/-- a line's end, whatever stands ahead of it. -/
theorem loose_nl (g : Nat) (p p' : List UInt8) (hp : ∀ c ∈ p, c ≠ 10) (hp' : ∀ c ∈ p', c ≠ 10) (he : Eqv p p') (r r' : List UInt8)
    (hr : (r = [] ∧ r' = []) ∨ (r ≠ [] ∧ r' ≠ [] ∧ Loose ((cutsL (trimNl r)).map lnB) ((cutsL (trimNl r')).map lnB))) :
    Loose ((cutsL (trimNl (p ++ 10 :: r))).map lnB) ((cutsL (trimNl (p' ++ (pre g 10 ++ 10 :: r')))).map lnB) := by
  have hfly : ∀ c ∈ flyL, c ≠ 10 := by decide
  have h22 : ∀ c ∈ ([32, 32] : List UInt8), c ≠ 10 := by decide
  have h1 : ∃ T, (cutsL (trimNl (p ++ 10 :: r))).map lnB = lnB p :: T ∧ ∀ x, (∀ c ∈ x, c ≠ 10) → ∃ T', (cutsL (trimNl (x ++ 10 :: r'))).map lnB = lnB x :: T' ∧ Loose T T' := by
    rcases hr with ⟨rfl, rfl⟩ | ⟨h1, h2, h3⟩
    · refine ⟨[], ?_, fun x hx => ⟨[], ?_, Loose.nil⟩⟩
      · rw [show p ++ [10] = p ++ [10] from rfl, trim_one, cutsL_clean p hp]; rfl
      · rw [trim_one, cutsL_clean x hx]; rfl
    · refine ⟨_, by rw [cuts_trim_cons p r hp h1]; rfl, fun x hx => ⟨_, by rw [cuts_trim_cons x r' hx h2]; rfl, h3⟩⟩
  obtain ⟨T, e1, h2⟩ := h1
  rw [e1]
  unfold pre
  by_cases hg1 : g = 1
  · rw [if_pos hg1, if_neg (by omega), List.append_nil, ← List.append_assoc]
    obtain ⟨T', e2, hL⟩ := h2 (p' ++ [32, 32]) (two_clean hp')
    rw [e2]
    exact Loose.cons _ _ _ _ (words_of2 he) hL
  · rw [if_neg hg1, List.nil_append]
    by_cases hg2 : g = 2
    · rw [if_pos ⟨rfl, hg2⟩]
      obtain ⟨T', e2, hL⟩ := h2 [32, 32] h22
      have e3 : p' ++ ([10, 35, 32, 102, 108, 121, 10, 32, 32] ++ 10 :: r') = p' ++ 10 :: (flyL ++ 10 :: ([32, 32] ++ 10 :: r')) := by simp [flyL]
      rw [e3, cuts_trim_cons p' _ hp' (by simp), cuts_trim_cons flyL _ hfly (by simp), List.map_cons, List.map_cons, e2]
      exact Loose.cons _ _ _ _ (words_of he) (Loose.skip _ _ _ fly_ig (Loose.skip _ _ _ two_ig hL))
    · rw [if_neg (fun h => hg2 h.2), List.nil_append]
      obtain ⟨T', e2, hL⟩ := h2 p' hp'
      rw [e2]
      exact Loose.cons _ _ _ _ (words_of he) hL
theorem loose_cuts (gaps : List UInt8) : ∀ (l : List UInt8) (k : Nat) (p p' : List UInt8), (∀ c ∈ p, c ≠ 10) → (∀ c ∈ p', c ≠ 10) → Eqv p p' →
    Loose ((cutsL (trimNl (p ++ l))).map lnB) ((cutsL (trimNl (p' ++ looseL gaps k l))).map lnB)
  | [], k, p, p', hp, hp', he => by
    show Loose ((cutsL (trimNl (p ++ []))).map lnB) ((cutsL (trimNl (p' ++ []))).map lnB)
    rw [List.append_nil, List.append_nil, trim_clean hp, trim_clean hp', cutsL_clean p hp, cutsL_clean p' hp']
    exact Loose.cons _ _ _ _ (words_of he) Loose.nil
  | c :: r, k, p, p', hp, hp', he => by
    have none : ∀ d ∈ ([] : List UInt8), d ≠ 10 := fun d hd => by cases hd
    have rest : ∀ j, (r = [] ∧ looseL gaps j r = []) ∨ (r ≠ [] ∧ looseL gaps j r ≠ [] ∧ Loose ((cutsL (trimNl r)).map lnB) ((cutsL (trimNl (looseL gaps j r))).map lnB)) := fun j => by
      by_cases hr : r = []
      · exact .inl ⟨hr, by rw [hr]; rfl⟩
      · exact .inr ⟨hr, loose_ne gaps j r hr, loose_cuts gaps r j [] [] none none (Eqv.refl _)⟩
    have snoc : ∀ (x : List UInt8) (d : UInt8) (y : List UInt8), x ++ d :: y = (x ++ [d]) ++ y := fun x d y => by simp
    by_cases h10 : c = 10
    · subst h10
      unfold looseL
      split
      · exact loose_nl _ p p' hp hp' he r _ (rest (k + 1))
      · exact loose_nl 0 p p' hp hp' he r _ (rest k)
    · unfold looseL
      rw [snoc p c r]
      split
      · rename_i hc
        have h32 : c = 32 := hc.1.resolve_left h10
        subst h32
        unfold pre
        have hno : ¬ ((32 : UInt8) = 10 ∧ gapN gaps k = 2) := fun h => absurd h.1 (by decide)
        by_cases hg : gapN gaps k = 1
        · rw [if_pos hg, if_neg hno, List.append_nil, ← List.append_assoc, snoc (p' ++ [32, 32]) 32]
          exact loose_cuts gaps r (k + 1) _ _ (snoc_clean hp h10) (snoc_clean (two_clean hp') h10) he.more
        · rw [if_neg hg, if_neg hno, List.nil_append, List.nil_append, snoc p' 32]
          exact loose_cuts gaps r (k + 1) _ _ (snoc_clean hp h10) (snoc_clean hp' h10) (he.snoc 32)
      · rw [snoc p' c]
        exact loose_cuts gaps r k _ _ (snoc_clean hp h10) (snoc_clean hp' h10) (he.snoc c)
theorem go_err : ∀ (ls : List ByteArray) (i : Nat) (acc : List (StP × Nat)), (goP i ls acc).2.2 = 0 ∨ (goP i ls acc).2.2 = 16
  | [], i, acc => .inl rfl
  | l :: ls, i, acc => by
    rw [goP_cons]
    split
    · exact go_err ls _ _
    · split
      · exact .inr rfl
      · exact go_err ls _ _
theorem parse_err (s : ByteArray) : (parseP s).2.2 = 0 ∨ (parseP s).2.2 = 4 ∨ (parseP s).2.2 = 16 := by
  unfold parseP
  split
  · exact .inr (.inl rfl)
  · rcases go_err (linesB s) 0 [] with h | h
    · exact .inl h
    · exact .inr (.inr h)
def looseB (s : ByteArray) (gaps : List UInt8) : ByteArray := ⟨(looseL gaps 0 s.data.toList).toArray⟩
theorem parse_loose (s : ByteArray) (gaps : List UInt8) (h : (parseP (looseB s gaps)).2.2 ≠ 4) :
    (parseP s).2.2 = (parseP (looseB s gaps)).2.2 ∧ (parseP s).1.map (·.1) = (parseP (looseB s gaps)).1.map (·.1) := by
  have hL : Loose (linesB s) (linesB (looseB s gaps)) := loose_cuts gaps s.data.toList 0 [] [] (fun d hd => by cases hd) (fun d hd => by cases hd) (Eqv.refl _)
  have h1 := hL.len
  have h2 : s.size ≤ (looseB s gaps).size := by
    rw [size_data, size_data]
    exact loose_len gaps _ 0
  unfold parseP at h ⊢
  by_cases hb : 65536 < (looseB s gaps).size ∨ 1024 < (linesB (looseB s gaps)).length
  · rw [if_pos hb] at h; exact absurd rfl h
  · rw [if_neg hb, if_neg (by omega)]
    have := hL.go 0 0 [] [] rfl
    exact ⟨this.2, this.1⟩

/-! ### limits -/
def hashB (n : Nat) : ByteArray := ⟨(35 :: List.replicate n 120).toArray⟩
theorem hash_size (n : Nat) : (hashB n).size = n + 1 := by rw [size_data]; simp [hashB]
theorem rep_clean (n : Nat) {x : UInt8} (c : UInt8) (hx : 120 ≠ x) (hx2 : 35 ≠ x) (hc : c ∈ 35 :: List.replicate n (120 : UInt8)) : c ≠ x := by
  rcases List.mem_cons.1 hc with rfl | hc
  · exact hx2
  · rw [(List.mem_replicate.1 hc).2]; exact hx
theorem parse_hash (n : Nat) : parseP (hashB n) = if 65536 < n + 1 then ([], 0, 4) else ([], 0, 0) := by
  have hl : linesB (hashB n) = [hashB n] := by
    unfold linesB
    show (cutsL (trimNl (35 :: List.replicate n 120))).map lnB = _
    have hc : ∀ c ∈ 35 :: List.replicate n (120 : UInt8), c ≠ 10 := fun c hc => rep_clean n c (by decide) (by decide) hc
    rw [trim_clean hc, cutsL_clean _ hc]
    rfl
  have hw : ignor (wordsB (hashB n)) = true := by
    unfold wordsB wordsL
    show ignor ((wordsGo [] (35 :: List.replicate n 120)).map _) = true
    have e := wordsGo_app (35 :: List.replicate n (120 : UInt8)) [] [] (fun c hc => rep_clean n c (by decide) (by decide) hc)
    rw [List.append_nil, List.nil_append] at e
    rw [e, wordsGo, if_neg (by simp)]
    rfl
  unfold parseP
  rw [hl, hash_size]
  by_cases h : 65536 < n + 1
  · rw [if_pos (.inl h), if_pos h]
  · rw [if_neg (by simp only [List.length_cons, List.length_nil]; omega), if_neg h, goP_cons, if_pos hw]
    rfl
def freshL : List UInt8 := [114, 101, 102, 114, 101, 115, 104]
def freshB (k : Nat) : ByteArray := ⟨(nlsL (List.replicate k freshL)).toArray⟩
theorem fresh_len : ∀ k : Nat, (nlsL (List.replicate k freshL)).length = 8 * k
  | 0 => rfl
  | k + 1 => by
    have := fresh_len k
    rw [List.replicate_succ]
    show ((freshL ++ [10]) ++ nlsL (List.replicate k freshL)).length = _
    rw [List.length_append, this]
    simp [freshL]; omega
theorem fresh_size (k : Nat) : (freshB k).size = 8 * k := by rw [size_data]; exact fresh_len k
theorem fresh_line : lineP (zst 3) = some ⟨(freshL ++ [10]).toArray⟩ := by decide +kernel
theorem fresh_bare : bareP (zst 3) = zst 3 := rfl
theorem fresh_tells : ∀ (k i : Nat) (acc : ByteArray), (tellsP i (List.replicate k (zst 3)) acc) = (acc ++ freshB k, 0, 0)
  | 0, i, acc => by
    have e : acc ++ freshB 0 = acc := ByteArray.append_empty
    rw [e]
    rfl
  | k + 1, i, acc => by
    rw [List.replicate_succ, tellsP, fresh_line]
    simp only []
    rw [fresh_tells k]
    refine congrArg (·, 0, 0) (ba_ext ?_)
    rw [ba_app, ba_app, ba_app, List.append_assoc]
    congr 1
theorem fresh_texts (k : Nat) (h : k ≤ 1024) : textsP (List.replicate k (zst 3)) = (freshB k, 0, 0) := by
  unfold textsP
  rw [fresh_tells k]
  simp only []
  have e : (⟨#[]⟩ : ByteArray) ++ freshB k = freshB k := ba_ext (by rw [ba_app]; rfl)
  rw [e, fresh_size, List.length_replicate, if_neg (by decide), if_neg (by omega)]
theorem parse_fresh (k : Nat) (h0 : 0 < k) : (1024 < k ∧ parseP (freshB k) = ([], 0, 4)) ∨ (k ≤ 1024 ∧ ∃ r, parseP (freshB k) = (r, 0, 0) ∧ r.map (·.1) = List.replicate k (zst 3)) := by
  by_cases h : k ≤ 1024
  · right
    refine ⟨h, ?_⟩
    have ht := fresh_texts k h
    obtain ⟨r, h1, h2⟩ := parse_texts (List.replicate k (zst 3)) (fun x hx => by rw [(List.mem_replicate.1 hx).2]; exact zst_inR 3) (by rw [ht])
    rw [ht] at h1
    refine ⟨r, h1, ?_⟩
    rw [h2, List.map_replicate, fresh_bare]
  · left
    refine ⟨by omega, ?_⟩
    have hl : linesB (freshB k) = (List.replicate k freshL).map lnB := by
      refine lines_nls _ _ ?_ rfl ?_
      · intro e; have := congrArg List.length e; simp at this; omega
      · intro x hx; rw [(List.mem_replicate.1 hx).2]; decide
    unfold parseP
    rw [hl, if_pos]
    right
    simp; omega
end Go.Proofs.YtffolbdimkhmmaaDoor
