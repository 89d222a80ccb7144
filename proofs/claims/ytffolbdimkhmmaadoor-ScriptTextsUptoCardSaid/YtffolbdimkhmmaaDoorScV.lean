import Derived.Test.YtffolbdimkhmmaaDoorScU
set_option linter.unusedVariables false
set_option linter.unusedSimpArgs false
namespace Go.Proofs.YtffolbdimkhmmaaDoor
open Go Go.RowKit Go.Lib

/-! ### script.Parse -/
theorem flat_get {α : Type} (mk : α → List Value) (size : Nat) (hmk : ∀ x, (mk x).length = size) : ∀ (L : List α) (i : Nat) (x : α), L[i]? = some x → ∀ j, j < size → (L.flatMap mk)[i * size + j]? = (mk x)[j]?
  | [], i, x, h, _, _ => by simp at h
  | y :: r, 0, x, h, j, hj => by
    obtain rfl : y = x := by simpa using h
    rw [List.flatMap_cons, Nat.zero_mul, Nat.zero_add, List.getElem?_append_left (by rw [hmk]; exact hj)]
  | y :: r, i + 1, x, h, j, hj => by
    have h2 := flat_get mk size hmk r i x (by simpa using h) j hj
    rw [List.flatMap_cons, List.getElem?_append_right (by rw [hmk, Nat.add_mul]; omega), hmk]
    have e : (i + 1) * size + j - size = i * size + j := by rw [Nat.add_mul]; omega
    rw [e]
    exact h2
/-- the cells of an element of an owned row. -/
theorem own_cells {α : Type} {e : TypeId} {size : Nat} {mk : α → List Value} (hmk : ∀ x, (mk x).length = size) (hs : 0 < size) {w : World} {base : Nat} {v : Value} {l : List α} (h : OwnL e size mk w base v l) :
    ∃ ad cap, v = .slice ad l.length cap ∧ l.length ≤ cap ∧ cap ≤ 9223372036854775807 ∧ ∀ i x, l[i]? = some x → ∃ g, ad = some ⟨g, 0, none⟩ ∧ ∀ j u, (mk x)[j]? = some u → w.cell? ⟨g, i * size + j, none⟩ = some u := by
  obtain ⟨ao, cap, hv, h1, h2, h3⟩ := OwnL.form h
  refine ⟨ao, cap, hv, h1, h2, fun i x hx => ?_⟩
  have hi : i < l.length := (List.getElem?_eq_some_iff.1 hx).1
  obtain ⟨g, hg, -, -, hc⟩ := h3 (by omega)
  refine ⟨g, hg, fun j u hu => ?_⟩
  have hj : j < size := by have := (List.getElem?_eq_some_iff.1 hu).1; rw [hmk] at this; exact this
  rw [hc (i * size + j) (by
    have : (i + 1) * size ≤ l.length * size := Nat.mul_le_mul_right _ hi
    rw [Nat.add_mul] at this
    omega), flat_get mk size hmk l i x hx j hj, hu]
def stepL (x : StP × Value) : List Value := [.int .i64 x.1.kind, .int .i64 x.1.a, .int .i64 x.1.b, .int .i64 x.1.n, .string x.1.text, x.2]
def OwnSt (w : World) (base : Nat) (v : Value) (L : List (StP × Value)) : Prop := OwnL TSt 6 stepL w base v L
theorem infoSt : (Tryd.prog.info? TSt).map (fun i => (i.zero, i.size, i.bytes)) = some (some (.agg #[.int .i64 0, .int .i64 0, .int .i64 0, .int .i64 0, .string ⟨#[]⟩, .slice none 0 0]), 6, 72) := by kernel_rfl
/-- steps, as they are read. -/
def StM (w : World) (v : Value) (L : List StP) : Prop :=
  ∃ ad cap, v = .slice ad L.length cap ∧ L.length ≤ cap ∧ cap ≤ 9223372036854775807 ∧ ∀ i x, L[i]? = some x → ∃ pb po kv, ad = some ⟨pb, po, none⟩ ∧ (∀ j u, (stepL (x, kv))[j]? = some u → w.cell? ⟨pb, po + i * 6 + j, none⟩ = some u) ∧ IntsM w kv x.keep
theorem StM.below {w w' : World} {v : Value} {L : List StP} (h : StM w v L) (k : Below w.heap.size w w') : StM w' v L := by
  obtain ⟨ad, cap, rfl, h1, h2, hc⟩ := h
  refine ⟨ad, cap, rfl, h1, h2, fun i x hx => ?_⟩
  obtain ⟨pb, po, kv, e, h3, h4⟩ := hc i x hx
  exact ⟨pb, po, kv, e, fun j u hu => (k.cell (cell_lt (h3 j u hu))).trans (h3 j u hu), h4.below k⟩
theorem OwnSt.read {w : World} {base : Nat} {v : Value} {L : List (StP × Value)} (h : OwnSt w base v L) (hk : ∀ x ∈ L, OwnI w 0 x.2 x.1.keep) : StM w v (L.map (·.1)) := by
  obtain ⟨ad, cap, hv, h1, h2, hc⟩ := own_cells (size := 6) (fun _ => rfl) (by decide) h
  refine ⟨ad, cap, by rw [List.length_map]; exact hv, by rw [List.length_map]; exact h1, h2, fun i x hx => ?_⟩
  rw [List.getElem?_map] at hx
  obtain ⟨y, hy, rfl⟩ := Option.map_eq_some_iff.1 hx
  obtain ⟨g, hg, hcc⟩ := hc i y hy
  exact ⟨g, 0, y.2, hg, fun j u hu => by rw [Nat.zero_add]; exact hcc j u hu, IntsM.of_own (hk y (List.mem_of_getElem? hy))⟩
def StepsPost (s : ByteArray) (w : World) (e : Ending) (w' : World) : Prop :=
  ∃ v, e = .returned (.tuple #[v, .int .i64 (parseP s).2.1, .int .i64 (parseP s).2.2]) ∧ StM w' v ((parseP s).1.map (·.1)) ∧ ((parseP s).1.map (·.1)).length ≤ 1024 ∧ Below w.heap.size w w'
/-- .. with what it owns. -/
def StepsPostO (s : ByteArray) (w : World) (e : Ending) (w' : World) : Prop :=
  ∃ v D, e = .returned (.tuple #[v, .int .i64 (parseP s).2.1, .int .i64 (parseP s).2.2]) ∧ OwnSt w' w.heap.size v D ∧ (∀ x ∈ D, OwnI w' 0 x.2 x.1.keep) ∧ D.map (·.1) = (parseP s).1.map (·.1) ∧ ((parseP s).1.map (·.1)).length ≤ 1024 ∧ Below w.heap.size w w'
def PsRel (L : List SaT) (w : World) (v i : Value) (wr : World) : Prop :=
  ∃ (k : Nat) (D : List (StP × Value)), k ≤ L.length ∧ i = .int .i64 k ∧ D = (L.take k).map (fun x => (x.1, x.2.1)) ∧ OwnSt wr w.heap.size v D ∧ Below w.heap.size w wr ∧ w.heap.size ≤ wr.heap.size
set_option maxRecDepth 100000 in
set_option maxHeartbeats 4000000 in
theorem sparse_own (s : ByteArray) (w : World) (hs : s.size ≤ 4000000000) (hV : VarsV w) :
    Calls Tryd.prog 9 #[.string s] w (StepsPostO s w) := by
  have HP := Lib.hid (parse_any s w hs hV)
  clear hV
  go_enter Tryd.func9, Tryd.ntmps9
  go_wp2_with fail
  refine HP.out.mono ?_
  generalize hpp : parseP s = pp
  obtain ⟨P0, pn, pe⟩ := pp
  have HPP := Lib.hid hpp
  rintro e w1 ⟨v1, L, rfl, hL, ⟨⟨base, hO⟩, hK⟩, hlen, hb⟩
  rw [hpp] at hL
  dsimp only at hL
  have HL := Lib.hid hL
  obtain ⟨ad, cap, rfl, hcap1, hcap2, hcells⟩ := own_cells (size := 7) (fun _ => rfl) (by decide) hO
  have HC := Lib.hid hcells
  have HK := Lib.hid hK
  have HB := Lib.hid hb
  clear hpp hL hO hcells hK hb HP
  rw [HPP.out]
  go_wp2_with fail
  go_loopw [8, 19] (fun v i wr => PsRel L w1 v i wr) (fun _ i _ => L.length - (intOf i).toNat)
  case atStart => exact ⟨0, [], Nat.zero_le _, rfl, rfl, ownL_nil _ _, Below.refl _ _, Nat.le_refl _⟩
  case round =>
    obtain ⟨k, D, hk, rfl, hD, hO, hB, hsz⟩ := hrel
    have hdl : D.length = k := by rw [hD, List.length_map, List.length_take]; omega
    have HD := Lib.hid hD
    have HO := Lib.hid hO
    have HBr := Lib.hid hB
    have HDL := Lib.hid hdl
    clear hD hO hB hdl
    by_cases hlt : k < L.length
    · obtain ⟨y, hy⟩ : ∃ y, L[k]? = some y := ⟨_, List.getElem?_eq_getElem hlt⟩
      obtain ⟨g, rfl, hc⟩ := HC.out k y hy
      obtain ⟨st, kv, ln⟩ := y
      have hkeep := HK.out (st, kv, ln) (List.mem_of_getElem? hy)
      obtain ⟨kad, kcap, hkv, -⟩ := OwnL.form hkeep
      dsimp only at hkv
      subst hkv
      have cc : ∀ j u, (saidL (st, .slice kad st.keep.length kcap, ln))[j]? = some u → wr.cell? ⟨g, k * 7 + j, none⟩ = some u := fun j u hu => (HBr.out.cell (cell_lt (hc j u hu))).trans (hc j u hu)
      have c0 : wr.cell? ⟨g, k * 7, none⟩ = some (.int .i64 st.kind) := cc 0 _ rfl
      have c1 := cc 1 _ rfl
      have c2 := cc 2 _ rfl
      have c3 := cc 3 _ rfl
      have c4 := cc 4 _ rfl
      have c5 := cc 5 _ rfl
      have c6 := cc 6 _ rfl
      have hnew : D ++ [(st, Value.slice kad st.keep.length kcap)] = (L.take (k + 1)).map (fun x => (x.1, x.2.1)) := by rw [HD.out, List.take_add_one, hy, List.map_append]; rfl
      have HN := Lib.hid hnew
      have hk0 : (0 : Int) ≤ (k : Int) := Int.natCast_nonneg _
      have hk1 : (k : Int) < (L.length : Int) := by omega
      have hdl : D.length ≤ 1024 := by rw [HDL.out]; omega
      obtain ⟨i0, hi, hz0, hz1, hz2⟩ := info_parts infoSt
      have HI2 := Lib.hid hz2
      clear hz2 hnew hy hc cc hkeep
      go_wp2_with (first | (at_builtin; refine wpList_appL _ rfl _ _ 23 rfl i0 (.agg #[.int .i64 0, .int .i64 0, .int .i64 0, .int .i64 0, .string ⟨#[]⟩, .slice none 0 0]) 72 Tryd.underlying23 hi hz0 hz1 HI2.out rfl (by decide) w1.heap.size _ D rfl (OwnL.alloc (OwnL.alloc HO.out _) _) (st, .slice kad st.keep.length kcap) rfl ⟨wr.heap.size + 1, 0, none⟩ 1 rfl ?_ ?_ ?_ (by decide) ?_ ?_) | fail)
      · exact fun j u h => h
      · intro u hu
        simp only [stepL, List.mem_cons, List.not_mem_nil, or_false] at hu
        rcases hu with rfl | rfl | rfl | rfl | rfl | rfl <;> rfl
      · omega
      · first | omega | (rw [size_alloc, size_alloc]; omega)
      intro v4 w4 ho4 hg4 hown4
      have HF := Lib.hid (And.intro ho4 (below_appS (HBr.out.alloc hsz _) (OwnL.alloc HO.out _) (by rw [size_alloc]; omega) _ hg4))
      clear ho4 hg4 hown4 c0 c1 c2 c3 c4 c5 c6 hdl
      go_wp2_with fail
      refine ⟨⟨k + 1, D ++ [(st, Value.slice kad st.keep.length kcap)], hlt, rfl, HN.out, HF.out.1, HF.out.2.1, HF.out.2.2⟩, ?_⟩
      show L.length - ((k : Int) + 1).toNat < L.length - (k : Int).toNat
      omega
    · obtain rfl : k = L.length := by omega
      have hfin : D.map (·.1) = P0.map (·.1) := by
        rw [HD.out, List.take_length, HL.out, List.map_map, List.map_map]
        rfl
      have HF := Lib.hid hfin
      clear hfin
      go_wp2_with fail
      go_ret3
      have hkD : ∀ x ∈ D, OwnI wr 0 x.2 x.1.keep := by
        intro x hx
        rw [HD.out, List.take_length] at hx
        obtain ⟨y, hy, rfl⟩ := List.mem_map.1 hx
        exact (HK.out y hy).below HBr.out
      have hO8 : OwnSt wr w.heap.size u8 D := OwnL.base HO.out (fun g hg => Nat.le_trans HB.out.size (OwnL.lt HO.out g hg).1)
      refine ⟨u8, D, by rw [HPP.out]; rfl, hO8, hkD, by rw [HPP.out]; exact HF.out, ?_, HB.out.trans (HBr.out.mono HB.out.size)⟩
      rw [HPP.out, ← HF.out, List.length_map, HDL.out]
      exact hlen
theorem sparse_any (s : ByteArray) (w : World) (hs : s.size ≤ 4000000000) (hV : VarsV w) :
    Calls Tryd.prog 9 #[.string s] w (StepsPost s w) := by
  refine (sparse_own s w hs hV).mono ?_
  rintro e w' ⟨v, D, rfl, hO, hk, hD, hl, hb⟩
  refine ⟨v, rfl, ?_, hl, hb⟩
  rw [← hD]
  exact hO.read hk
end Go.Proofs.YtffolbdimkhmmaaDoor
