import Derived.Test.YtobepddifflpdaaDoorTjB
set_option linter.unusedVariables false
namespace Go.Proofs.YtobepddifflpdaaDoor
open Go Go.RowKit Go.Lib Go.Sort Go.Maps Go.WideMaps

/-! a source in which one path is gone, or one text too long -/
def Spot (gone long path : ByteArray) (want : Int) : Prop := (gone = path ∧ long = ⟨#[]⟩ ∧ want = 15) ∨ (gone = ⟨#[]⟩ ∧ long = path ∧ want = 3)

theorem ans_spot {k : Nat} {gone long path : ByteArray} {want : Int} (h : Spot gone long path want) {l i x : Nat} (hk : k ≤ 1000) (hT : InT k l i x) (hp : pathT l i x = path) :
    (ansF k leafK gone long (pathT l i x)).2 = 15 ∧ want = 15 ∨ (ansF k leafK gone long (pathT l i x)).2 = 0 ∧ (ansF k leafK gone long (pathT l i x)).1.size = 32 * x + 1 ∧ want = 3 := by
  have hf := inT_fit (by omega) hT
  rcases h with ⟨rfl, _, rfl⟩ | ⟨rfl, rfl, rfl⟩
  · left
    unfold ansF
    rw [if_pos hp]
    exact ⟨rfl, rfl⟩
  · right
    have h0 : 0 < 4 ^ l := by rw [four_pow]; exact Nat.two_pow_pos _
    have hm : makeR k leafK l i x = (makeT leafK (4 ^ l) (4 * i) x, 0) := by
      unfold makeR
      rw [if_pos hf]
      simp only [Int.toNat_natCast]
      obtain ⟨h1, h2, h3⟩ := hT
      rw [if_neg (by omega)]
    have ha : ansF k leafK ⟨#[]⟩ long (pathT l i x) = (makeT leafK (4 ^ l) (4 * i) x ++ ⟨#[120]⟩, 0) := by
      unfold ansF
      rw [if_neg (path_ne hf), parse_path hf]
      simp only
      rw [if_pos hp, hm]
    rw [ha]
    refine ⟨rfl, ?_, rfl⟩
    show (makeT leafK (4 ^ l) (4 * i) x ++ ⟨#[120]⟩).size = _
    rw [ByteArray.size_append, makeT_size leafK _ _ leafK_size h0 x]
    rfl

theorem spot_ok {fb : Nat} {hv : Value} {k : Nat} {gone long path p : ByteArray} {want : Int} {hk : k ≤ 1000} (h : Spot gone long path want) (ho : OkP (filesSrc fb hv k leafK gone long hk leafK_size) k p) : p ≠ path := by
  obtain ⟨l, i, x, t, hT, rfl, h1, h2⟩ := ho
  intro hp
  have h1' : ansF k leafK gone long (pathT l i x) = (t, 0) := h1
  rcases ans_spot h hk hT hp with ⟨h3, _⟩ | ⟨_, h3, _⟩
  · rw [h1'] at h3
    simp only at h3
    omega
  · rw [h1'] at h3
    simp only at h3
    omega
theorem spot_bad {fb : Nat} {hv : Value} {k : Nat} {gone long path p : ByteArray} {want e : Int} {hk : k ≤ 1000} (h : Spot gone long path want) (hb : BadAt (filesSrc fb hv k leafK gone long hk leafK_size) k p e) : p = path ∧ e = want := by
  have hpl : p = path := by
    have h1 := files_noBad fb hv k k leafK gone long hk leafK_size (Nat.le_refl _) hb
    obtain ⟨l, i, x, hT, rfl, _⟩ := hb
    have hne := path_ne (inT_fit (by omega) hT)
    rcases h with ⟨rfl, rfl, _⟩ | ⟨rfl, rfl, _⟩
    · rcases h1 with h1 | h1
      · exact h1
      · exact absurd h1 hne
    · rcases h1 with h1 | h1
      · exact absurd h1 hne
      · exact h1
  refine ⟨hpl, ?_⟩
  obtain ⟨l, i, x, hT, rfl, h3, h4⟩ := hb
  have h4' : (ansF k leafK gone long (pathT l i x)).2 = e ∨ (ansF k leafK gone long (pathT l i x)).2 = 0 ∧ (ansF k leafK gone long (pathT l i x)).1.size ≠ 32 * x ∧ e = 3 := h4
  rcases ans_spot h hk hT hpl with ⟨h5, h6⟩ | ⟨h5, h6, h7⟩
  · rcases h4' with h4' | ⟨h4', _⟩
    · rw [← h4', h5, h6]
    · rw [h5] at h4'; exact absurd h4' (by decide)
  · rcases h4' with h4' | ⟨_, _, h4'⟩
    · rw [h5] at h4'; exact absurd h4'.symm h3
    · rw [h4', h7]
theorem spot_want {gone long path : ByteArray} {want : Int} (h : Spot gone long path want) : want ≠ 0 := by
  rcases h with ⟨_, _, rfl⟩ | ⟨_, _, rfl⟩ <;> decide
/-- what was asked for tells whether it failed. -/
theorem spot_met {fb : Nat} {hv : Value} {k c : Nat} {gone long path : ByteArray} {want e : Int} {hk : k ≤ 1000} {w w' : World} {s s' : Value × List ByteArray} (h : Spot gone long path want) (hs : s.2 = [])
    (ho : Out (filesSrc fb hv k leafK gone long hk leafK_size) k c w s w' e s') : (e = 0 ∧ ∀ p ∈ s'.2, p ≠ path) ∨ (e = want ∧ path ∈ s'.2) := by
  obtain ⟨new, h1, _, _, _, h5, h6⟩ := ho.ev
  have h1' : s'.2 = s.2 ++ new := h1
  rw [hs, List.nil_append] at h1'
  by_cases he : e = 0
  · left
    refine ⟨he, fun p hp => ?_⟩
    rw [h1'] at hp
    exact spot_ok h (h5 he p hp)
  · right
    obtain ⟨p, hp, hb⟩ := h6 rfl he
    obtain ⟨rfl, h7⟩ := spot_bad h hb
    exact ⟨h7, by rw [h1']; exact hp⟩
theorem spot_err {fb : Nat} {hv : Value} {k c : Nat} {gone long path : ByteArray} {want e : Int} {hk : k ≤ 1000} {w w' : World} {s s' : Value × List ByteArray} (h : Spot gone long path want)
    (ho : Out (filesSrc fb hv k leafK gone long hk leafK_size) k c w s w' e s') : e = 0 ∨ e = want := by
  obtain ⟨new, _, _, _, _, _, h6⟩ := ho.ev
  by_cases he : e = 0
  · exact .inl he
  · obtain ⟨p, hp, hb⟩ := h6 rfl he
    exact .inr (spot_bad h hb).2

/-- what was asked for is forgotten. -/
theorem St.reset {fb : Nat} {hv : Value} {n : Nat} {gone long : ByteArray} {w0 w : World} {s : Value × List ByteArray} (h : St fb hv n gone long w0 w s) :
    St fb hv n gone long w0 (w.setCell ⟨fb, 3, none⟩ (.slice none 0 0)) (.slice none 0 0, []) := by
  have k : Kp (fun i => i = fb) w (w.setCell ⟨fb, 3, none⟩ (.slice none 0 0)) := Kp.setCell (Kp.refl (fun i => i = fb) w) (p := ⟨fb, 3, none⟩) (.inl rfl) _
  refine ⟨⟨blk_set h.fa.blk _, h.fa.hs.kp k (fun g hg => (h.fa.hlt g hg).2), ownL_nil _ _, (fun g hg => by cases hg), fun g hg => ⟨Nat.lt_of_lt_of_le (h.fa.hlt g hg).1 k.size, (h.fa.hlt g hg).2⟩, h.fa.fb⟩, h.tb.kp k (fun i hi => hi ▸ h.fa.fb), h.bl.setCell (h.sb fb (.inl rfl)) _, fun i hi => ?_⟩
  rcases hi with rfl | hi
  · exact h.sb _ (.inl rfl)
  · cases hi

/-- a block that is none of a source's is kept. -/
theorem St.other {fb : Nat} {hv : Value} {n : Nat} {gone long : ByteArray} {w0 w : World} {s : Value × List ByteArray} (h : St fb hv n gone long w0 w s) {b : Nat} {cs : Array Value} {T : TypeId} {f : Nat × Nat} (hb : w.heap[b]? = some (.cells cs T f)) (hne : b ≠ fb) (hT : T ≠ 9) : ¬ FileS fb s.1 b := by
  intro hs
  rcases hs with hs | hs
  · exact hne hs
  · exact OwnL.ne_blk h.fa.own hb hT hs
theorem St.hvNot {fb : Nat} {hv : Value} {n : Nat} {gone long : ByteArray} {w0 w : World} {s : Value × List ByteArray} (h : St fb hv n gone long w0 w s) : ∀ g, hv.ownBlock = some g → ¬ FileS fb s.1 g := by
  intro g hg hs
  rcases hs with hs | hs
  · exact (h.fa.hlt g hg).2 hs
  · exact h.fa.dis g hs hg
/-- the other source, not asked yet. -/
def Oth (w : World) (fb ab : Nat) (hv : Value) (n : Nat) (gone long : ByteArray) (cs : Array Value) : Prop :=
  FilesAt w fb hv n leafK gone long (.slice none 0 0) [] ∧ w.heap[ab]? = some (.cells cs 40 (0, 0))
theorem Oth.kp {S : Nat → Prop} {w w' : World} {fb ab : Nat} {hv : Value} {n : Nat} {gone long : ByteArray} {cs : Array Value} (h : Oth w fb ab hv n gone long cs) (k : Kp S w w') (h1 : ¬ S fb) (h2 : ∀ g, hv.ownBlock = some g → ¬ S g) (h3 : ¬ S ab) : Oth w' fb ab hv n gone long cs :=
  ⟨h.1.kp k h1 h2 (fun g hg => by cases hg), blk_kp h.2 k h3⟩
theorem Oth.below {w w' : World} {fb ab : Nat} {hv : Value} {n : Nat} {gone long : ByteArray} {cs : Array Value} (h : Oth w fb ab hv n gone long cs) (k : Below w.heap.size w w') : Oth w' fb ab hv n gone long cs :=
  h.kp (S := fun _ => False) (Kp.of_below k) (fun h => h) (fun _ _ h => h) (fun h => h)
theorem Oth.out {fb fb2 ab : Nat} {hv : Value} {n m c : Nat} {gone long gone2 long2 : ByteArray} {cs : Array Value} {w0 w w' : World} {s s' : Value × List ByteArray} {e : Int} {hn : n ≤ 1000} (h : Oth w fb2 ab hv n gone2 long2 cs) (hs : St fb hv n gone long w0 w s) (h1 : fb2 ≠ fb) (h2 : ab ≠ fb)
    (k : Out (filesSrc fb hv n leafK gone long hn leafK_size) m c w s w' e s') : Oth w' fb2 ab hv n gone2 long2 cs :=
  h.kp k.kp (hs.other h.1.blk h1 (by decide)) hs.hvNot (hs.other h.2 h2 (by decide))
theorem Oth.reset {fb fb2 ab : Nat} {hv : Value} {n : Nat} {gone long gone2 long2 : ByteArray} {cs : Array Value} {w0 w : World} {s : Value × List ByteArray} (h : Oth w fb2 ab hv n gone2 long2 cs) (hs : St fb hv n gone long w0 w s) (h1 : fb2 ≠ fb) (h2 : ab ≠ fb) :
    Oth (w.setCell ⟨fb, 3, none⟩ (.slice none 0 0)) fb2 ab hv n gone2 long2 cs :=
  h.kp (S := fun i => i = fb) (Kp.setCell (Kp.refl (fun i => i = fb) w) (p := ⟨fb, 3, none⟩) (.inl rfl) _) h1 (fun g hg => (hs.fa.hlt g hg).2) h2

def MtRel (L : List ByteArray) (p : ByteArray) (f i : Value) (w wr : World) : Prop :=
  ∃ k : Nat, k ≤ L.length ∧ i = .int .i64 k ∧ f = .bool ((L.take k).any fun t => decide (t = p)) ∧ wr = w

/-- before round r. -/
def FlRel (w0 : World) (fb1 fb2 ab : Nat) (hv : Value) (n : Nat) (path : ByteArray) (cs : Array Value) (i : Value) (wr : World) : Prop :=
  ∃ r : Nat, r ≤ 2 ∧ i = .int .i64 r ∧ Tabs wr ∧ Below w0.heap.size w0 wr ∧ (r = 0 → FilesAt wr fb1 hv n leafK path ⟨#[]⟩ (.slice none 0 0) []) ∧ (r ≤ 1 → Oth wr fb2 ab hv n ⟨#[]⟩ path cs)

theorem fst_mem {k : Nat} (h1 : 1 ≤ k) (hk : k ≤ 1024) : (0, 0, min 4 k) ∈ allT k := inT_mem hk ⟨by omega, by simp; omega, by simp⟩

set_option maxRecDepth 100000 in
set_option maxHeartbeats 4000000 in
theorem fails_any (z y i : Int) (w : World) (hT : Tabs w) (hz0 : 0 ≤ z) (hz1 : z ≤ 255) (hy0 : 0 ≤ y) (hy1 : y ≤ 255) (hi : -9223372036854775808 ≤ i ∧ i ≤ 9223372036854775807) :
    Calls Tryd.prog 4 #[.int .u8 z, .int .u8 y, .int .i64 i] w fun e w' => e = .returned (.bool true) ∧ Below w.heap.size w w' := by
  have HT := Lib.hid hT
  clear hT
  go_enter Tryd.func4, Tryd.ntmps4
  go_wp2_with fail
  refine (reads_any w HT.out).mono ?_
  rintro e w1 ⟨rfl, hb1⟩
  have HB1 := Lib.hid hb1
  clear hb1
  obtain ⟨k0, hk0⟩ : ∃ k : Nat, z % 60 = (k : Int) := ⟨(z % 60).toNat, by omega⟩
  obtain ⟨k, hk⟩ : ∃ k, k = 1 + k0 := ⟨_, rfl⟩
  have hk1 : (1 : Int) + (k0 : Int) = (k : Int) := by omega
  have hk60 : k ≤ 60 := by omega
  have hkp : 1 ≤ k := by omega
  clear hk
  go_wp2_with fail
  refine (leaves_any k w1 (by omega)).mono ?_
  rintro e w2 ⟨v, rfl, ho2, hb2⟩
  obtain ⟨ao, nn, cp, rfl⟩ : ∃ ao n c, v = .slice ao n c := by obtain ⟨ao, c, h, -⟩ := OwnL.form ho2; exact ⟨ao, _, c, h⟩
  have hnn : nn = k := by
    obtain ⟨ao', c, h, -⟩ := OwnL.form ho2
    injection h with _ e2 _
    rw [e2]; simp
  subst hnn
  have hsz1 := HB1.out.size
  have HO2 := Lib.hid ho2
  have HB2 := Lib.hid (HB1.out.trans (hb2.mono hsz1))
  have hszb2 := hb2.size
  clear ho2 hb2
  go_wp2_with fail
  refine (refall_any nn w2).mono ?_
  rintro e w3 ⟨v3, rfl, ho3, hb3⟩
  have hmem : ∀ t ∈ allI nn, InT nn t.1 t.2.1 t.2.2 := by
    intro t ht
    unfold allI at ht
    rw [if_pos (by omega), Int.toNat_natCast] at ht
    exact mem_inT ht
  have hpos : 0 < (allI nn).length := by
    have := fst_mem hkp (by omega)
    unfold allI
    rw [if_pos (by omega), Int.toNat_natCast]
    exact List.length_pos_of_mem this
  have hlen := allI_length2 nn
  obtain ⟨ao3, cp3, rfl, hd1, hd2, hform⟩ := cells_of_ownR2 ho3
  have HF := Lib.hid hform
  have HO3 := Lib.hid (OwnL.below HO2.out hb3)
  have HB3 := Lib.hid (HB2.out.trans (hb3.mono HB2.out.size))
  have hszb3 := hb3.size
  have HMem := Lib.hid hmem
  generalize allI nn = L at *
  obtain ⟨N, hN⟩ : ∃ N, L.length = N := ⟨_, rfl⟩
  rw [hN] at hpos hlen hd1 ⊢
  obtain ⟨yn, rfl⟩ := Int.eq_ofNat_of_zero_le hy0
  obtain ⟨q, hq⟩ : ∃ q, q = yn % N := ⟨_, rfl⟩
  have hqN : q < N := by rw [hq]; exact Nat.mod_lt _ hpos
  have hrem : (yn : Int).tmod (N : Int) = (q : Int) := by rw [hq]; rfl
  have hrem3 : (yn : Int) % (N : Int) = (q : Int) := by rw [hq]; rfl
  have hrem2 : IntKind.i64.wrap ((yn : Int).tmod (N : Int)) = (q : Int) := by rw [hrem]; exact IntWalk.i64_in _ (by omega)
  have hN0 : ¬ (N : Int) = 0 := by omega
  obtain ⟨⟨tl, ti, tx⟩, ht⟩ : ∃ t, L[q]? = some t := ⟨_, List.getElem?_eq_getElem (by omega)⟩
  have hin := HMem.out _ (List.mem_of_getElem? ht)
  obtain ⟨g, rfl, q0, q1, q2⟩ := HF.out q tl ti tx ht
  have HIn := Lib.hid hin
  clear hb3 ho3 hform hmem ht hin hq HF HMem HO2 HB2
  have hfit := inT_fit (by omega) HIn.out
  have HT3 := Lib.hid (HT.out.below HB3.out)
  go_wp2_with fail
  refine (refpath_any tl ti tx w3 (fun h => HT3.out.itoa _ (by have := fit_bd h; omega) (by have := fit_bd h; omega)) (fun h => HT3.out.itoa _ (by have := fit_bd h; omega) (by have := fit_bd h; omega)) (fun h => HT3.out.itoa _ (by have := fit_bd h; omega) (by have := fit_bd h; omega))).mono ?_
  rintro e w4 ⟨rfl, hb4⟩
  have HO4 := Lib.hid (OwnL.below HO3.out hb4)
  have HB4 := Lib.hid (HB3.out.trans (hb4.mono HB3.out.size))
  have hszb4 := hb4.size
  obtain ⟨path, hpath⟩ : ∃ path, path = pathT tl ti tx := ⟨_, rfl⟩
  have hpne : path ≠ ⟨#[]⟩ := by rw [hpath]; exact path_ne hfit
  rw [← hpath]
  have HPath := Lib.hid hpath
  obtain ⟨u, hu⟩ : ∃ u : Nat, i % 18446744073709551616 = (u : Int) := ⟨(i % 18446744073709551616).toNat, by omega⟩
  have hu2 : IntKind.u64.wrap i = (u : Int) := by rw [IntKind.wrap_u64]; exact hu
  have hku : IntKind.u64.wrap (nn : Int) = (nn : Int) := by rw [IntKind.wrap_u64]; omega
  obtain ⟨j, hj⟩ : ∃ j, j = u % nn := ⟨_, rfl⟩
  have hjn : j < nn := by rw [hj]; exact Nat.mod_lt _ (by omega)
  have hj1 : (u : Int) % (nn : Int) = (j : Int) := by rw [hj]; rfl
  have hj2 : (u : Int).tmod (nn : Int) = (j : Int) := by rw [hj]; rfl
  have hj3 : IntKind.u64.wrap (j : Int) = (j : Int) := by rw [IntKind.wrap_u64]; omega
  have hj4 : IntKind.i64.wrap (j : Int) = (j : Int) := IntWalk.i64_in _ (by omega)
  have hnn0 : ¬ (nn : Int) = 0 := by omega
  clear hb4 q0 q1 q2 hrem hrem2 hrem3 hj hpath hfit HO3 HB3 HT3 HIn hN hqN hpos hlen hd1 hd2
  go_wp2_with fail
  -- LOOP
  have hF1 : FilesAt (w4.alloc (.cells #[.slice ao nn cp, .string path, .string ⟨#[]⟩, .slice none 0 0] 42)) w4.heap.size (.slice ao nn cp) nn leafK path ⟨#[]⟩ (.slice none 0 0) [] :=
    files_new HO4.out (by have := HT.out.size; omega) (by omega) _ _
  have hF2 : FilesAt ((w4.alloc (.cells #[.slice ao nn cp, .string path, .string ⟨#[]⟩, .slice none 0 0] 42)).alloc (.cells #[.slice ao nn cp, .string ⟨#[]⟩, .string path, .slice none 0 0] 42)) (w4.heap.size + 1) (.slice ao nn cp) nn leafK ⟨#[]⟩ path (.slice none 0 0) [] := by
    have := files_new (w := w1) (w1 := w4.alloc (.cells #[.slice ao nn cp, .string path, .string ⟨#[]⟩, .slice none 0 0] 42)) (n := nn) (v := .slice ao nn cp) (OwnL.alloc HO4.out _) (by have := HT.out.size; omega) (by rw [size_alloc]; omega) ⟨#[]⟩ path
    rw [size_alloc] at this
    exact this
  have hb0 : Below w.heap.size w (((w4.alloc (.cells #[.slice ao nn cp, .string path, .string ⟨#[]⟩, .slice none 0 0] 42)).alloc (.cells #[.slice ao nn cp, .string ⟨#[]⟩, .string path, .slice none 0 0] 42)).alloc (.cells #[.pointer (some ⟨w4.heap.size, 0, none⟩), .pointer (some ⟨w4.heap.size + 1, 0, none⟩)] 40)) :=
    ((HB4.out.alloc (by omega) _).alloc (by rw [size_alloc]; omega) _).alloc (by rw [size_alloc, size_alloc]; omega) _
  have hA := blk_new ((w4.alloc (.cells #[.slice ao nn cp, .string path, .string ⟨#[]⟩, .slice none 0 0] 42)).alloc (.cells #[.slice ao nn cp, .string ⟨#[]⟩, .string path, .slice none 0 0] 42)) (.cells #[.pointer (some ⟨w4.heap.size, 0, none⟩), .pointer (some ⟨w4.heap.size + 1, 0, none⟩)] 40)
  rw [size_alloc, size_alloc] at hA
  have hF1' := (hF1.below ((Below.refl _ _).alloc (Nat.le_refl _) (.cells #[.slice ao nn cp, .string ⟨#[]⟩, .string path, .slice none 0 0] 42))).below ((Below.refl _ _).alloc (Nat.le_refl _) (.cells #[.pointer (some ⟨w4.heap.size, 0, none⟩), .pointer (some ⟨w4.heap.size + 1, 0, none⟩)] 40))
  have hF2' := hF2.below ((Below.refl _ _).alloc (Nat.le_refl _) (.cells #[.pointer (some ⟨w4.heap.size, 0, none⟩), .pointer (some ⟨w4.heap.size + 1, 0, none⟩)] 40))
  have HT0 := Lib.hid (HT.out.below hb0)
  have HX0 := Lib.hid (show Oth _ _ _ _ _ _ _ _ from ⟨hF2', hA⟩)
  have HF0 := Lib.hid hF1'
  have HB0 := Lib.hid hb0
  have hfl : w.heap.size ≤ w4.heap.size := by omega
  have hpl3 : path.toList.isEmpty = false := by
    rw [ByteArray.toList_eq]
    cases hh : path.data.toList with
    | nil => exact absurd (by ext1; exact Array.toList_inj.1 hh) hpne
    | cons x l => rfl
  have hpl : (path.toList == (⟨#[]⟩ : ByteArray).toList) = false := by rw [toList_eq_iff]; simpa using hpne
  clear hF1 hF2 hb0 hA hF1' hF2' HO4 HB4 HB1 hszb4 hszb3 hszb2 hsz1 hu hu2 hku hj1 hj2 hj3 hj4
  generalize World.alloc _ (.cells #[.pointer (some ⟨w4.heap.size, 0, none⟩), .pointer (some ⟨w4.heap.size + 1, 0, none⟩)] 40) = wL at HT0 HX0 HF0 HB0 ⊢
  obtain ⟨fb1, hfb1⟩ : ∃ b, b = w4.heap.size := ⟨_, rfl⟩
  obtain ⟨fb2, hfb2⟩ : ∃ b, b = w4.heap.size + 1 := ⟨_, rfl⟩
  obtain ⟨ab, hab⟩ : ∃ b, b = w4.heap.size + 1 + 1 := ⟨_, rfl⟩
  rw [← hab, ← hfb2, ← hfb1] at HX0
  rw [← hfb1] at HF0 hfl
  have hne21 : fb2 ≠ fb1 := by omega
  have hne31 : ab ≠ fb1 := by omega
  have hfl2 : w.heap.size ≤ fb2 := by omega
  have hfl3 : fb1 < fb2 := by omega
  have hab2 : ab = w4.heap.size + 2 := by omega
  try rw [← hab2]
  try rw [← hab]
  try rw [← hfb2]
  rw [← hfb1]
  try rw [← hfb2]
  clear hfb1 hfb2 hab hab2
  go_loopw [58] (fun i wr => FlRel w fb1 fb2 ab (.slice ao nn cp) nn path _ i wr) (fun i _ => 2 - (RowKit.intOf i).toNat)
  case atStart => exact ⟨0, by omega, rfl, HT0.out, HB0.out, fun _ => HF0.out, fun _ => HX0.out⟩
  case round =>
    obtain ⟨r, hr, rfl, htb, hbl, hF1, hX⟩ := hrel
    clear HT0 HX0 HF0 HB0
    rcases (show r = 0 ∨ r = 1 ∨ r = 2 by omega) with rfl | rfl | rfl
    · have HX := Lib.hid (hX (by omega))
      have HS := Lib.hid (show St fb1 (.slice ao nn cp) nn path ⟨#[]⟩ w wr (.slice none 0 0, []) from ⟨hF1 rfl, htb, hbl, fun k hk => hk.elim (fun h => by omega) (fun h => by cases h)⟩)
      have spot : Spot path ⟨#[]⟩ path 15 := .inl ⟨rfl, rfl, rfl⟩
      have c61 : wr.cell? ⟨ab, 0, none⟩ = some (.pointer (some ⟨fb1, 0, none⟩)) := cell_of_blk HX.out.2 0 rfl
      have c2 : wr.cell? ⟨fb1, 2, none⟩ = some (.string ⟨#[]⟩) := cell_of_blk HS.out.fa.blk 2 rfl
      clear htb hbl hF1 hX
      go_wp2_with fail
      refine (froot_any fb1 _ nn nn path ⟨#[]⟩ (by omega) w wr (.slice none 0 0, []) HS.out (Nat.le_refl _) (by simp)).mono ?_
      rintro e w5 ⟨t5, e5, s5, rfl, hO, ht0, ht1⟩
      have HSa := Lib.hid (HS.out.out hO)
      have HXa := Lib.hid (HX.out.out HS.out hne21 hne31 hO)
      rcases spot_err spot hO with he | he
      · subst he
        obtain rfl := ht0 rfl
        clear hO ht0 ht1 HS HX c61 c2
        have hself : ((rootL leafK 0 nn).toList == (rootL leafK 0 nn).toList) = true := beq_self_eq_true _
        go_wp2_with fail
        refine (refroot_hash ao nn cp nn leafK w5 (by omega) (Nat.le_refl _) HSa.out.hs).mono ?_
        rintro e w6 ⟨rfl, hb6⟩
        have HSb := Lib.hid (HSa.out.below hb6)
        have HXb := Lib.hid (HXa.out.below hb6)
        clear hb6 HSa HXa
        have c3f := free_of_blk HSb.out.fa.blk 3
        have c3c := cell_of_blk HSb.out.fa.blk 3 rfl
        go_wp2_with fail
        have HSc := Lib.hid HSb.out.reset
        have HXc := Lib.hid (HXb.out.reset HSb.out hne21 hne31)
        clear c3f c3c HSb HXb
        generalize World.setCell _ ⟨fb1, 3, none⟩ (.slice none 0 0) = w7 at HSc HXc ⊢
        refine (fincl_any fb1 _ nn nn path ⟨#[]⟩ (by omega) j w w7 (.slice none 0 0, []) HSc.out (Nat.le_refl _) (by simp)).mono ?_
        rintro e w8 ⟨v8, er8, e8, s8, l8, rfl, hO, hp8, hok8, -⟩
        obtain ⟨rfl, hl8a, hl8b⟩ := hok8 ⟨by omega, by omega⟩
        have HM := Lib.hid (And.intro hl8a (And.intro hl8b (spot_met spot rfl hO)))
        have HSd := Lib.hid (HSc.out.out hO)
        have HP8 := Lib.hid hp8
        have HXd := Lib.hid (HXc.out.out HSc.out hne21 hne31 hO)
        clear hO hp8 hok8 hl8a hl8b HSc HXc
        obtain ⟨ao8, cp8, hav, hg1, hg2, hcells⟩ := cells_of_ownS HSd.out.fa.own
        have c3 : w8.cell? ⟨fb1, 3, none⟩ = some (.slice ao8 s8.2.length cp8) := by rw [← hav]; exact cell_of_blk HSd.out.fa.blk 3 rfl
        have HC := Lib.hid hcells
        clear hcells hav
        go_wp2_with fail
        generalize hAL : s8.2 = AL at HM HC hg1 ⊢
        clear hAL c3
        go_loopw [18, 111] (fun f i wr => MtRel AL path f i w8 wr) (fun _ i _ => AL.length - (RowKit.intOf i).toNat)
        case atStart => exact ⟨0, Nat.zero_le _, rfl, rfl, rfl⟩
        case round =>
          obtain ⟨m, hm, rfl, rfl, rfl⟩ := hrel
          by_cases hlt : m < AL.length
          · obtain ⟨a, ha⟩ : ∃ a, AL[m]? = some a := ⟨_, List.getElem?_eq_getElem hlt⟩
            obtain ⟨g8, rfl, r0⟩ := HC.out m a ha
            have hany : (AL.take (m + 1)).any (fun t => decide (t = path)) = ((AL.take m).any (fun t => decide (t = path)) || decide (a = path)) := by
              rw [List.take_add_one, ha]
              simp only [Option.toList_some, List.any_append, List.any_cons, List.any_nil, Bool.or_false]
            have HAny := Lib.hid hany
            have hself2 := toList_eq_iff a path
            clear ha hany
            cases hfnd : (AL.take m).any (fun t => decide (t = path)) with
            | true =>
              rw [hfnd] at HAny
              go_wp2_with fail
              refine ⟨⟨m + 1, hlt, rfl, by rw [HAny.out]; rfl, rfl⟩, ?_⟩
              show AL.length - ((m : Int) + 1).toNat < AL.length - (m : Int).toNat
              omega
            | false =>
              rw [hfnd] at HAny
              go_wp2_with fail
              refine ⟨⟨m + 1, hlt, rfl, by rw [HAny.out]; rfl, rfl⟩, ?_⟩
              show AL.length - ((m : Int) + 1).toNat < AL.length - (m : Int).toNat
              omega
          · obtain rfl : m = AL.length := by omega
            obtain ⟨hl8a, hl8b, hmet⟩ := HM.out
            rcases hmet with ⟨he, hno⟩ | ⟨he, hyes⟩
            · subst he
              have hfalse : ((AL.take AL.length).any fun t => decide (t = path)) = false := by
                rw [List.take_length, List.any_eq_false]
                intro t ht
                simpa using hno t ht
              rw [hfalse]
              have HL8 := Lib.hid (hl8a rfl)
              clear HM hl8a hl8b hno hfalse HC
              go_wp2_with fail
              refine (refInclusion_any ao nn cp leafK j _ (by omega) HSd.out.hs).mono ?_
              rintro e w9 ⟨v9, er9, l9, rfl, ho9, hb9, hok9, -⟩
              obtain ⟨rfl, hl9⟩ := hok9 ⟨by omega, by omega⟩
              have HP9 := Lib.hid (HP8.out.below hb9)
              have HQ9 := Lib.hid (Pr.new HSd.out.fa ho9)
              have HL9 := Lib.hid hl9
              have HSe := Lib.hid (HSd.out.below hb9)
              have HXe := Lib.hid (HXd.out.below hb9)
              clear ho9 hb9 hok9 hl9 HP8 HSd HXd
              go_wp2_with fail
              obtain ⟨b1, o1, -⟩ := HP9.out
              obtain ⟨b2, o2, -⟩ := HQ9.out
              rw [HL8.out] at o1
              rw [HL9.out] at o2
              have hlen9 := inclG_len (rootL leafK) nn 0 (j : Int).toNat
              refine (sametexts_any _ _ b1 b2 _ _ o1 o2 (by omega)).mono ?_
              rintro e w10 ⟨rfl, hb10⟩
              have HSf := Lib.hid (HSe.out.below hb10)
              have HXf := Lib.hid (HXe.out.below hb10)
              clear hb10 o1 o2 HSe HXe
              go_wp2_with fail
              refine ⟨⟨1, by omega, rfl, HSf.out.tb, HSf.out.bl, fun h => absurd h (by decide), fun _ => HXf.out⟩, ?_⟩
              decide
            · subst he
              have htrue : ((AL.take AL.length).any fun t => decide (t = path)) = true := by
                rw [List.take_length, List.any_eq_true]
                exact ⟨path, hyes, by simp⟩
              rw [htrue]
              have hl0 := hl8b (by decide)
              obtain ⟨b8, o8, -⟩ := HP8.out
              rw [hl0] at o8
              obtain ⟨ao9, cp9, rfl, -⟩ := cells_of_ownS o8
              clear HM hl8a hl8b hyes htrue HC o8 hl0
              go_wp2_with fail
              refine (refInclusion_any ao nn cp leafK j _ (by omega) HSd.out.hs).mono ?_
              rintro e w9 ⟨v9, er9, l9, rfl, ho9, hb9, hok9, -⟩
              have HSf := Lib.hid (HSd.out.below hb9)
              have HXf := Lib.hid (HXd.out.below hb9)
              clear ho9 hb9 hok9 HSd HXd
              go_wp2_with fail
              refine ⟨⟨1, by omega, rfl, HSf.out.tb, HSf.out.bl, fun h => absurd h (by decide), fun _ => HXf.out⟩, ?_⟩
              decide
      · subst he
        obtain rfl := ht1 (by decide)
        clear hO ht0 ht1 HS HX c61 c2
        have HSb := HSa
        have HXb := HXa
        clear HSa HXa
        have c3f := free_of_blk HSb.out.fa.blk 3
        have c3c := cell_of_blk HSb.out.fa.blk 3 rfl
        go_wp2_with fail
        have HSc := Lib.hid HSb.out.reset
        have HXc := Lib.hid (HXb.out.reset HSb.out hne21 hne31)
        clear c3f c3c HSb HXb
        generalize World.setCell _ ⟨fb1, 3, none⟩ (.slice none 0 0) = w7 at HSc HXc ⊢
        refine (fincl_any fb1 _ nn nn path ⟨#[]⟩ (by omega) j w w7 (.slice none 0 0, []) HSc.out (Nat.le_refl _) (by simp)).mono ?_
        rintro e w8 ⟨v8, er8, e8, s8, l8, rfl, hO, hp8, hok8, -⟩
        obtain ⟨rfl, hl8a, hl8b⟩ := hok8 ⟨by omega, by omega⟩
        have HM := Lib.hid (And.intro hl8a (And.intro hl8b (spot_met spot rfl hO)))
        have HSd := Lib.hid (HSc.out.out hO)
        have HP8 := Lib.hid hp8
        have HXd := Lib.hid (HXc.out.out HSc.out hne21 hne31 hO)
        clear hO hp8 hok8 hl8a hl8b HSc HXc
        obtain ⟨ao8, cp8, hav, hg1, hg2, hcells⟩ := cells_of_ownS HSd.out.fa.own
        have c3 : w8.cell? ⟨fb1, 3, none⟩ = some (.slice ao8 s8.2.length cp8) := by rw [← hav]; exact cell_of_blk HSd.out.fa.blk 3 rfl
        have HC := Lib.hid hcells
        clear hcells hav
        go_wp2_with fail
        generalize hAL : s8.2 = AL at HM HC hg1 ⊢
        clear hAL c3
        go_loopw [18, 111] (fun f i wr => MtRel AL path f i w8 wr) (fun _ i _ => AL.length - (RowKit.intOf i).toNat)
        case atStart => exact ⟨0, Nat.zero_le _, rfl, rfl, rfl⟩
        case round =>
          obtain ⟨m, hm, rfl, rfl, rfl⟩ := hrel
          by_cases hlt : m < AL.length
          · obtain ⟨a, ha⟩ : ∃ a, AL[m]? = some a := ⟨_, List.getElem?_eq_getElem hlt⟩
            obtain ⟨g8, rfl, r0⟩ := HC.out m a ha
            have hany : (AL.take (m + 1)).any (fun t => decide (t = path)) = ((AL.take m).any (fun t => decide (t = path)) || decide (a = path)) := by
              rw [List.take_add_one, ha]
              simp only [Option.toList_some, List.any_append, List.any_cons, List.any_nil, Bool.or_false]
            have HAny := Lib.hid hany
            have hself2 := toList_eq_iff a path
            clear ha hany
            cases hfnd : (AL.take m).any (fun t => decide (t = path)) with
            | true =>
              rw [hfnd] at HAny
              go_wp2_with fail
              refine ⟨⟨m + 1, hlt, rfl, by rw [HAny.out]; rfl, rfl⟩, ?_⟩
              show AL.length - ((m : Int) + 1).toNat < AL.length - (m : Int).toNat
              omega
            | false =>
              rw [hfnd] at HAny
              go_wp2_with fail
              refine ⟨⟨m + 1, hlt, rfl, by rw [HAny.out]; rfl, rfl⟩, ?_⟩
              show AL.length - ((m : Int) + 1).toNat < AL.length - (m : Int).toNat
              omega
          · obtain rfl : m = AL.length := by omega
            obtain ⟨hl8a, hl8b, hmet⟩ := HM.out
            rcases hmet with ⟨he, hno⟩ | ⟨he, hyes⟩
            · subst he
              have hfalse : ((AL.take AL.length).any fun t => decide (t = path)) = false := by
                rw [List.take_length, List.any_eq_false]
                intro t ht
                simpa using hno t ht
              rw [hfalse]
              have HL8 := Lib.hid (hl8a rfl)
              clear HM hl8a hl8b hno hfalse HC
              go_wp2_with fail
              refine (refInclusion_any ao nn cp leafK j _ (by omega) HSd.out.hs).mono ?_
              rintro e w9 ⟨v9, er9, l9, rfl, ho9, hb9, hok9, -⟩
              obtain ⟨rfl, hl9⟩ := hok9 ⟨by omega, by omega⟩
              have HP9 := Lib.hid (HP8.out.below hb9)
              have HQ9 := Lib.hid (Pr.new HSd.out.fa ho9)
              have HL9 := Lib.hid hl9
              have HSe := Lib.hid (HSd.out.below hb9)
              have HXe := Lib.hid (HXd.out.below hb9)
              clear ho9 hb9 hok9 hl9 HP8 HSd HXd
              go_wp2_with fail
              obtain ⟨b1, o1, -⟩ := HP9.out
              obtain ⟨b2, o2, -⟩ := HQ9.out
              rw [HL8.out] at o1
              rw [HL9.out] at o2
              have hlen9 := inclG_len (rootL leafK) nn 0 (j : Int).toNat
              refine (sametexts_any _ _ b1 b2 _ _ o1 o2 (by omega)).mono ?_
              rintro e w10 ⟨rfl, hb10⟩
              have HSf := Lib.hid (HSe.out.below hb10)
              have HXf := Lib.hid (HXe.out.below hb10)
              clear hb10 o1 o2 HSe HXe
              go_wp2_with fail
              refine ⟨⟨1, by omega, rfl, HSf.out.tb, HSf.out.bl, fun h => absurd h (by decide), fun _ => HXf.out⟩, ?_⟩
              decide
            · subst he
              have htrue : ((AL.take AL.length).any fun t => decide (t = path)) = true := by
                rw [List.take_length, List.any_eq_true]
                exact ⟨path, hyes, by simp⟩
              rw [htrue]
              have hl0 := hl8b (by decide)
              obtain ⟨b8, o8, -⟩ := HP8.out
              rw [hl0] at o8
              obtain ⟨ao9, cp9, rfl, -⟩ := cells_of_ownS o8
              clear HM hl8a hl8b hyes htrue HC o8 hl0
              go_wp2_with fail
              refine (refInclusion_any ao nn cp leafK j _ (by omega) HSd.out.hs).mono ?_
              rintro e w9 ⟨v9, er9, l9, rfl, ho9, hb9, hok9, -⟩
              have HSf := Lib.hid (HSd.out.below hb9)
              have HXf := Lib.hid (HXd.out.below hb9)
              clear ho9 hb9 hok9 HSd HXd
              go_wp2_with fail
              refine ⟨⟨1, by omega, rfl, HSf.out.tb, HSf.out.bl, fun h => absurd h (by decide), fun _ => HXf.out⟩, ?_⟩
              decide
    · have HX1 := Lib.hid (hX (by omega))
      have HS := Lib.hid (show St fb2 (.slice ao nn cp) nn ⟨#[]⟩ path w wr (.slice none 0 0, []) from ⟨HX1.out.1, htb, hbl, fun k hk => hk.elim (fun h => by omega) (fun h => by cases h)⟩)
      have spot : Spot ⟨#[]⟩ path path 3 := .inr ⟨rfl, rfl, rfl⟩
      have c61 : wr.cell? ⟨ab, 1, none⟩ = some (.pointer (some ⟨fb2, 0, none⟩)) := cell_of_blk HX1.out.2 1 rfl
      have c2 : wr.cell? ⟨fb2, 2, none⟩ = some (.string path) := cell_of_blk HS.out.fa.blk 2 rfl
      clear htb hbl hF1 hX
      go_wp2_with fail
      refine (froot_any fb2 _ nn nn ⟨#[]⟩ path (by omega) w wr (.slice none 0 0, []) HS.out (Nat.le_refl _) (by simp)).mono ?_
      rintro e w5 ⟨t5, e5, s5, rfl, hO, ht0, ht1⟩
      have HSa := Lib.hid (HS.out.out hO)
      skip
      rcases spot_err spot hO with he | he
      · subst he
        obtain rfl := ht0 rfl
        clear hO ht0 ht1 HS HX1 c61 c2
        have hself : ((rootL leafK 0 nn).toList == (rootL leafK 0 nn).toList) = true := beq_self_eq_true _
        go_wp2_with fail
        refine (refroot_hash ao nn cp nn leafK w5 (by omega) (Nat.le_refl _) HSa.out.hs).mono ?_
        rintro e w6 ⟨rfl, hb6⟩
        have HSb := Lib.hid (HSa.out.below hb6)
        skip
        clear hb6 HSa
        have c3f := free_of_blk HSb.out.fa.blk 3
        have c3c := cell_of_blk HSb.out.fa.blk 3 rfl
        go_wp2_with fail
        have HSc := Lib.hid HSb.out.reset
        clear c3f c3c HSb
        generalize World.setCell _ ⟨fb2, 3, none⟩ (.slice none 0 0) = w7 at HSc ⊢
        refine (fincl_any fb2 _ nn nn ⟨#[]⟩ path (by omega) j w w7 (.slice none 0 0, []) HSc.out (Nat.le_refl _) (by simp)).mono ?_
        rintro e w8 ⟨v8, er8, e8, s8, l8, rfl, hO, hp8, hok8, -⟩
        obtain ⟨rfl, hl8a, hl8b⟩ := hok8 ⟨by omega, by omega⟩
        have HM := Lib.hid (And.intro hl8a (And.intro hl8b (spot_met spot rfl hO)))
        have HSd := Lib.hid (HSc.out.out hO)
        have HP8 := Lib.hid hp8
        clear hO hp8 hok8 hl8a hl8b HSc
        obtain ⟨ao8, cp8, hav, hg1, hg2, hcells⟩ := cells_of_ownS HSd.out.fa.own
        have c3 : w8.cell? ⟨fb2, 3, none⟩ = some (.slice ao8 s8.2.length cp8) := by rw [← hav]; exact cell_of_blk HSd.out.fa.blk 3 rfl
        have HC := Lib.hid hcells
        clear hcells hav
        go_wp2_with fail
        generalize hAL : s8.2 = AL at HM HC hg1 ⊢
        clear hAL c3
        go_loopw [18, 111] (fun f i wr => MtRel AL path f i w8 wr) (fun _ i _ => AL.length - (RowKit.intOf i).toNat)
        case atStart => exact ⟨0, Nat.zero_le _, rfl, rfl, rfl⟩
        case round =>
          obtain ⟨m, hm, rfl, rfl, rfl⟩ := hrel
          by_cases hlt : m < AL.length
          · obtain ⟨a, ha⟩ : ∃ a, AL[m]? = some a := ⟨_, List.getElem?_eq_getElem hlt⟩
            obtain ⟨g8, rfl, r0⟩ := HC.out m a ha
            have hany : (AL.take (m + 1)).any (fun t => decide (t = path)) = ((AL.take m).any (fun t => decide (t = path)) || decide (a = path)) := by
              rw [List.take_add_one, ha]
              simp only [Option.toList_some, List.any_append, List.any_cons, List.any_nil, Bool.or_false]
            have HAny := Lib.hid hany
            have hself2 := toList_eq_iff a path
            clear ha hany
            cases hfnd : (AL.take m).any (fun t => decide (t = path)) with
            | true =>
              rw [hfnd] at HAny
              go_wp2_with fail
              refine ⟨⟨m + 1, hlt, rfl, by rw [HAny.out]; rfl, rfl⟩, ?_⟩
              show AL.length - ((m : Int) + 1).toNat < AL.length - (m : Int).toNat
              omega
            | false =>
              rw [hfnd] at HAny
              go_wp2_with fail
              refine ⟨⟨m + 1, hlt, rfl, by rw [HAny.out]; rfl, rfl⟩, ?_⟩
              show AL.length - ((m : Int) + 1).toNat < AL.length - (m : Int).toNat
              omega
          · obtain rfl : m = AL.length := by omega
            obtain ⟨hl8a, hl8b, hmet⟩ := HM.out
            rcases hmet with ⟨he, hno⟩ | ⟨he, hyes⟩
            · subst he
              have hfalse : ((AL.take AL.length).any fun t => decide (t = path)) = false := by
                rw [List.take_length, List.any_eq_false]
                intro t ht
                simpa using hno t ht
              rw [hfalse]
              have HL8 := Lib.hid (hl8a rfl)
              clear HM hl8a hl8b hno hfalse HC
              go_wp2_with fail
              refine (refInclusion_any ao nn cp leafK j _ (by omega) HSd.out.hs).mono ?_
              rintro e w9 ⟨v9, er9, l9, rfl, ho9, hb9, hok9, -⟩
              obtain ⟨rfl, hl9⟩ := hok9 ⟨by omega, by omega⟩
              have HP9 := Lib.hid (HP8.out.below hb9)
              have HQ9 := Lib.hid (Pr.new HSd.out.fa ho9)
              have HL9 := Lib.hid hl9
              have HSe := Lib.hid (HSd.out.below hb9)
              skip
              clear ho9 hb9 hok9 hl9 HP8 HSd
              go_wp2_with fail
              obtain ⟨b1, o1, -⟩ := HP9.out
              obtain ⟨b2, o2, -⟩ := HQ9.out
              rw [HL8.out] at o1
              rw [HL9.out] at o2
              have hlen9 := inclG_len (rootL leafK) nn 0 (j : Int).toNat
              refine (sametexts_any _ _ b1 b2 _ _ o1 o2 (by omega)).mono ?_
              rintro e w10 ⟨rfl, hb10⟩
              have HSf := Lib.hid (HSe.out.below hb10)
              skip
              clear hb10 o1 o2 HSe
              go_wp2_with fail
              refine ⟨⟨2, by omega, rfl, HSf.out.tb, HSf.out.bl, fun h => absurd h (by decide), fun h => absurd h (by decide)⟩, ?_⟩
              decide
            · subst he
              have htrue : ((AL.take AL.length).any fun t => decide (t = path)) = true := by
                rw [List.take_length, List.any_eq_true]
                exact ⟨path, hyes, by simp⟩
              rw [htrue]
              have hl0 := hl8b (by decide)
              obtain ⟨b8, o8, -⟩ := HP8.out
              rw [hl0] at o8
              obtain ⟨ao9, cp9, rfl, -⟩ := cells_of_ownS o8
              clear HM hl8a hl8b hyes htrue HC o8 hl0
              go_wp2_with fail
              refine (refInclusion_any ao nn cp leafK j _ (by omega) HSd.out.hs).mono ?_
              rintro e w9 ⟨v9, er9, l9, rfl, ho9, hb9, hok9, -⟩
              have HSf := Lib.hid (HSd.out.below hb9)
              skip
              clear ho9 hb9 hok9 HSd
              go_wp2_with fail
              refine ⟨⟨2, by omega, rfl, HSf.out.tb, HSf.out.bl, fun h => absurd h (by decide), fun h => absurd h (by decide)⟩, ?_⟩
              decide
      · subst he
        obtain rfl := ht1 (by decide)
        clear hO ht0 ht1 HS HX1 c61 c2
        have HSb := HSa
        skip
        clear HSa
        have c3f := free_of_blk HSb.out.fa.blk 3
        have c3c := cell_of_blk HSb.out.fa.blk 3 rfl
        go_wp2_with fail
        have HSc := Lib.hid HSb.out.reset
        clear c3f c3c HSb
        generalize World.setCell _ ⟨fb2, 3, none⟩ (.slice none 0 0) = w7 at HSc ⊢
        refine (fincl_any fb2 _ nn nn ⟨#[]⟩ path (by omega) j w w7 (.slice none 0 0, []) HSc.out (Nat.le_refl _) (by simp)).mono ?_
        rintro e w8 ⟨v8, er8, e8, s8, l8, rfl, hO, hp8, hok8, -⟩
        obtain ⟨rfl, hl8a, hl8b⟩ := hok8 ⟨by omega, by omega⟩
        have HM := Lib.hid (And.intro hl8a (And.intro hl8b (spot_met spot rfl hO)))
        have HSd := Lib.hid (HSc.out.out hO)
        have HP8 := Lib.hid hp8
        clear hO hp8 hok8 hl8a hl8b HSc
        obtain ⟨ao8, cp8, hav, hg1, hg2, hcells⟩ := cells_of_ownS HSd.out.fa.own
        have c3 : w8.cell? ⟨fb2, 3, none⟩ = some (.slice ao8 s8.2.length cp8) := by rw [← hav]; exact cell_of_blk HSd.out.fa.blk 3 rfl
        have HC := Lib.hid hcells
        clear hcells hav
        go_wp2_with fail
        generalize hAL : s8.2 = AL at HM HC hg1 ⊢
        clear hAL c3
        go_loopw [18, 111] (fun f i wr => MtRel AL path f i w8 wr) (fun _ i _ => AL.length - (RowKit.intOf i).toNat)
        case atStart => exact ⟨0, Nat.zero_le _, rfl, rfl, rfl⟩
        case round =>
          obtain ⟨m, hm, rfl, rfl, rfl⟩ := hrel
          by_cases hlt : m < AL.length
          · obtain ⟨a, ha⟩ : ∃ a, AL[m]? = some a := ⟨_, List.getElem?_eq_getElem hlt⟩
            obtain ⟨g8, rfl, r0⟩ := HC.out m a ha
            have hany : (AL.take (m + 1)).any (fun t => decide (t = path)) = ((AL.take m).any (fun t => decide (t = path)) || decide (a = path)) := by
              rw [List.take_add_one, ha]
              simp only [Option.toList_some, List.any_append, List.any_cons, List.any_nil, Bool.or_false]
            have HAny := Lib.hid hany
            have hself2 := toList_eq_iff a path
            clear ha hany
            cases hfnd : (AL.take m).any (fun t => decide (t = path)) with
            | true =>
              rw [hfnd] at HAny
              go_wp2_with fail
              refine ⟨⟨m + 1, hlt, rfl, by rw [HAny.out]; rfl, rfl⟩, ?_⟩
              show AL.length - ((m : Int) + 1).toNat < AL.length - (m : Int).toNat
              omega
            | false =>
              rw [hfnd] at HAny
              go_wp2_with fail
              refine ⟨⟨m + 1, hlt, rfl, by rw [HAny.out]; rfl, rfl⟩, ?_⟩
              show AL.length - ((m : Int) + 1).toNat < AL.length - (m : Int).toNat
              omega
          · obtain rfl : m = AL.length := by omega
            obtain ⟨hl8a, hl8b, hmet⟩ := HM.out
            rcases hmet with ⟨he, hno⟩ | ⟨he, hyes⟩
            · subst he
              have hfalse : ((AL.take AL.length).any fun t => decide (t = path)) = false := by
                rw [List.take_length, List.any_eq_false]
                intro t ht
                simpa using hno t ht
              rw [hfalse]
              have HL8 := Lib.hid (hl8a rfl)
              clear HM hl8a hl8b hno hfalse HC
              go_wp2_with fail
              refine (refInclusion_any ao nn cp leafK j _ (by omega) HSd.out.hs).mono ?_
              rintro e w9 ⟨v9, er9, l9, rfl, ho9, hb9, hok9, -⟩
              obtain ⟨rfl, hl9⟩ := hok9 ⟨by omega, by omega⟩
              have HP9 := Lib.hid (HP8.out.below hb9)
              have HQ9 := Lib.hid (Pr.new HSd.out.fa ho9)
              have HL9 := Lib.hid hl9
              have HSe := Lib.hid (HSd.out.below hb9)
              skip
              clear ho9 hb9 hok9 hl9 HP8 HSd
              go_wp2_with fail
              obtain ⟨b1, o1, -⟩ := HP9.out
              obtain ⟨b2, o2, -⟩ := HQ9.out
              rw [HL8.out] at o1
              rw [HL9.out] at o2
              have hlen9 := inclG_len (rootL leafK) nn 0 (j : Int).toNat
              refine (sametexts_any _ _ b1 b2 _ _ o1 o2 (by omega)).mono ?_
              rintro e w10 ⟨rfl, hb10⟩
              have HSf := Lib.hid (HSe.out.below hb10)
              skip
              clear hb10 o1 o2 HSe
              go_wp2_with fail
              refine ⟨⟨2, by omega, rfl, HSf.out.tb, HSf.out.bl, fun h => absurd h (by decide), fun h => absurd h (by decide)⟩, ?_⟩
              decide
            · subst he
              have htrue : ((AL.take AL.length).any fun t => decide (t = path)) = true := by
                rw [List.take_length, List.any_eq_true]
                exact ⟨path, hyes, by simp⟩
              rw [htrue]
              have hl0 := hl8b (by decide)
              obtain ⟨b8, o8, -⟩ := HP8.out
              rw [hl0] at o8
              obtain ⟨ao9, cp9, rfl, -⟩ := cells_of_ownS o8
              clear HM hl8a hl8b hyes htrue HC o8 hl0
              go_wp2_with fail
              refine (refInclusion_any ao nn cp leafK j _ (by omega) HSd.out.hs).mono ?_
              rintro e w9 ⟨v9, er9, l9, rfl, ho9, hb9, hok9, -⟩
              have HSf := Lib.hid (HSd.out.below hb9)
              skip
              clear ho9 hb9 hok9 HSd
              go_wp2_with fail
              refine ⟨⟨2, by omega, rfl, HSf.out.tb, HSf.out.bl, fun h => absurd h (by decide), fun h => absurd h (by decide)⟩, ?_⟩
              decide
    · go_wp2_with fail
      go_ret
      exact ⟨rfl, hbl⟩
end Go.Proofs.YtobepddifflpdaaDoor
