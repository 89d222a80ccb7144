import Derived.Test.YtffolbdimkhmmaaDoorScB
import Derived.Test.YtffolbdimkhmmaaDoorSl
set_option linter.unusedVariables false
set_option linter.unusedSimpArgs false
namespace Go.Proofs.YtffolbdimkhmmaaDoor
open Go Go.RowKit Go.Lib

/-! ### the document's lines and words -/
theorem cuts_snoc : ∀ l : List UInt8, cutsL (l ++ [10]) = cutsL l ++ [[]]
  | [] => rfl
  | c :: r => by
    have ih := cuts_snoc r
    rw [List.cons_append]
    by_cases hc : c = 10
    · rw [cutsL, if_pos hc, cutsL, if_pos hc, ih]; rfl
    · rw [cutsL, if_neg hc, cutsL, if_neg hc, ih]
      cases h : cutsL r with
      | nil => exact absurd h (cutsL_ne r)
      | cons p q => rfl
def refLines (s : ByteArray) : List ByteArray := if s.size = 0 then [] else linesB s
theorem lines_len_ref (s : ByteArray) : (1024 < (refLines s).length) ↔ (1024 < (linesB s).length) := by
  unfold refLines
  split
  · rename_i h
    have : s = ⟨#[]⟩ := ba_ext (List.length_eq_zero_iff.1 (by rw [← size_data]; exact h))
    rw [this, lines_nil]
    simp
  · exact Iff.rfl
theorem getD_drop0 (s : ByteArray) (k : Nat) (h : k < s.size) : s.data.toList.drop k = s.data.toList.getD k 0 :: s.data.toList.drop (k + 1) := by
  have hl : k < s.data.toList.length := by rw [← size_data]; exact h
  rw [List.drop_eq_getElem_cons hl, getD_of hl]
theorem ext_one (s : ByteArray) (k : Nat) (h : k < s.size) : (s.extract k (k + 1)).data.toList = [s.data.toList.getD k 0] := by
  rw [extract_data, getD_drop0 s k h, Nat.add_sub_cancel_left]
  rfl
theorem ext_size (s : ByteArray) (k : Nat) (h : k < s.size) : (s.extract k (k + 1)).size = 1 := by
  rw [size_data, ext_one s k h]; rfl
def LinesRel (s : ByteArray) (w : World) (v cur i : Value) (wr : World) : Prop :=
  ∃ (k : Nat) (c : ByteArray) (done : List ByteArray), k ≤ s.size ∧ i = .int .i64 k ∧ cur = .string c ∧ c.size ≤ k ∧ done.length ≤ k ∧ (∀ d ∈ c.data.toList, d ≠ 10) ∧
    cutsL s.data.toList = done.map (·.data.toList) ++ cutsL (c.data.toList ++ s.data.toList.drop k) ∧ OwnS wr w.heap.size v done ∧ Below w.heap.size w wr ∧ w.heap.size ≤ wr.heap.size
theorem below_appS {α : Type} {e : TypeId} {size : Nat} {mk : α → List Value} {B : Nat} {w wr w' : World} {v : Value} {l : List α} (hb : Below B w wr) (hO : OwnL e size mk wr B v l) (hs : B ≤ wr.heap.size) (o : Obj) (hg : (wr.alloc o).grownBy w' v.ownBlock) : Below B w w' ∧ B ≤ w'.heap.size := by
  have hbase : B ≤ (wr.alloc o).heap.size := by rw [size_alloc]; omega
  exact ⟨(hb.alloc hs _).grown hg hbase (fun g hg => (hO.lt g hg).1), Nat.le_trans hbase hg.size⟩
def ListPost (L : List ByteArray) (w : World) (e : Ending) (w' : World) : Prop := ∃ v, e = .returned v ∧ OwnS w' w.heap.size v L ∧ Below w.heap.size w w'
theorem lines_end (s c : ByteArray) (done : List ByteArray) (hc : ∀ d ∈ c.data.toList, d ≠ 10) (hcut : cutsL s.data.toList = done.map (·.data.toList) ++ cutsL (c.data.toList ++ s.data.toList.drop s.size)) :
    (s.size = 0 → refLines s = done) ∧ (s.size ≠ 0 → s.data.toList.getD (s.size - 1) 0 = 10 → refLines s = done) ∧ (s.size ≠ 0 → s.data.toList.getD (s.size - 1) 0 ≠ 10 → refLines s = done ++ [c]) := by
  have hl : s.data.toList.length = s.size := Array.length_toList
  rw [List.drop_eq_nil_of_le (by omega), List.append_nil, cutsL_clean _ hc] at hcut
  have back : ∀ L : List ByteArray, (L.map (·.data.toList)).map lnB = L := fun L => by
    rw [List.map_map]
    conv => rhs; rw [← List.map_id L]
    exact List.map_congr_left fun x _ => ba_ext rfl
  have last : s.size ≠ 0 → s.data.toList.getLast? = some (s.data.toList.getD (s.size - 1) 0) := fun h => by
    rw [List.getLast?_eq_getElem?, hl, List.getElem?_eq_getElem (by omega), getD_of (by omega)]
  refine ⟨fun h => ?_, fun h h10 => ?_, fun h h10 => ?_⟩
  · have hs : s.data.toList = [] := List.length_eq_zero_iff.1 (by omega)
    rw [hs] at hcut
    unfold refLines
    rw [if_pos h]
    cases done with
    | nil => rfl
    | cons x r => have := congrArg List.length hcut; simp [cutsL] at this
  · have hsp : s.data.toList = s.data.toList.dropLast ++ [10] := by
      have := last h
      rw [h10] at this
      obtain ⟨ys, hy⟩ := List.getLast?_eq_some_iff.1 this
      rw [hy, List.dropLast_concat]
    unfold refLines linesB
    rw [if_neg h]
    have e1 : trimNl s.data.toList = s.data.toList.dropLast := by
      unfold trimNl
      rw [last h, h10, if_pos rfl]
    rw [e1]
    rw [hsp, cuts_snoc] at hcut
    have := (List.append_inj' hcut (by simp)).1
    rw [this, back]
  · unfold refLines linesB
    rw [if_neg h]
    have e1 : trimNl s.data.toList = s.data.toList := by
      unfold trimNl
      rw [last h, if_neg (fun e => h10 (Option.some.inj e))]
    rw [e1, hcut, List.map_append, back]
    rfl
set_option maxRecDepth 100000 in
set_option maxHeartbeats 2000000 in
theorem lines_any (s : ByteArray) (w : World) (hs : s.size ≤ 100000000) :
    Calls Tryd.prog 20 #[.string s] w (ListPost (refLines s) w) := by
  go_enter Tryd.func20, Tryd.ntmps20
  go_wp2_with fail
  go_loopw [3, 4, 5] (fun v cur i wr => LinesRel s w v cur i wr) (fun _ _ i _ => s.size - (intOf i).toNat)
  case atStart => exact ⟨0, ⟨#[]⟩, [], Nat.zero_le _, rfl, rfl, Nat.le_refl _, Nat.le_refl _, (by simp), rfl, ownL_nil _ _, Below.refl _ _, Nat.le_refl _⟩
  case round =>
    obtain ⟨k, c, done, hk, rfl, rfl, hck, hdk, hcl, hcut, hO, hK, hsz⟩ := hrel
    have HO := Lib.hid hO
    have HK := Lib.hid hK
    have HC := Lib.hid hcut
    have HCL := Lib.hid hcl
    clear hO hK hcut hcl
    by_cases hlt : k < s.size
    · have hix := fun W => idx_str s k hlt W
      have hdr := getD_drop0 s k hlt
      have hx1 := ext_one s k hlt
      have hx2 := ext_size s k hlt
      generalize s.data.toList.getD k 0 = d at hix hdr hx1
      have HD := Lib.hid hdr
      have HX := Lib.hid hx1
      clear hdr hx1
      have hk0 : (0 : Int) ≤ (k : Int) := Int.natCast_nonneg _
      have hk1 : (k : Int) < (s.size : Int) := by omega
      have hk2 : (k : Int) ≤ (s.size : Int) := by omega
      by_cases hc : d = 10
      · have hcb : ((d.toNat : Int) == 10) = true := by rw [hc]; rfl
        have hci : (d.toNat : Int) = 10 := by rw [hc]; rfl
        have hnew : cutsL s.data.toList = (done ++ [c]).map (·.data.toList) ++ cutsL ((⟨#[]⟩ : ByteArray).data.toList ++ s.data.toList.drop (k + 1)) := by
          rw [HC.out, HD.out, hc, cutsL_app _ _ HCL.out, List.map_append, List.append_assoc]
          rfl
        have HN := Lib.hid hnew
        clear hnew hc
        obtain ⟨i0, hi, hz0, hz1, hz2⟩ := info_parts infoStr
        have HI2 := Lib.hid hz2
        clear hz2
        go_wp2_with (first | (at_builtin; refine wpList_appL _ rfl _ _ 59 rfl i0 (.string ⟨#[]⟩) 16 Tryd.underlying59 hi hz0 hz1 HI2.out rfl (by decide) w.heap.size _ done rfl (OwnL.alloc HO.out _) c rfl ⟨wr.heap.size, 0, none⟩ 1 rfl (one_str wr _ _) ?_ ?_ (by decide) ?_ ?_) | fail)
        · first | rfl | (intro u hu; simp at hu; subst hu; rfl)
        · omega
        · first | omega | (rw [size_alloc]; omega)
        intro v4 w4 ho4 hg4 hown4
        have HF := Lib.hid (And.intro ho4 (below_appS HK.out HO.out hsz _ hg4))
        clear ho4 hg4 hown4
        go_wp2_with fail
        refine ⟨⟨k + 1, ⟨#[]⟩, _, hlt, rfl, rfl, Nat.zero_le _, (by rw [List.length_append]; simp; omega), (by simp), HN.out, HF.out.1, HF.out.2.1, HF.out.2.2⟩, ?_⟩
        show s.size - ((k : Int) + 1).toNat < s.size - (k : Int).toNat
        omega
      · have hcb : ((d.toNat : Int) == 10) = false := beq_eq_false_iff_ne.2 (fun h => hc (by apply UInt8.toNat_inj.1; show d.toNat = 10; omega))
        have hci : ¬ (d.toNat : Int) = 10 := fun h => hc (by apply UInt8.toNat_inj.1; show d.toNat = 10; omega)
        have hnew : cutsL s.data.toList = done.map (·.data.toList) ++ cutsL ((c ++ s.extract k (k + 1)).data.toList ++ s.data.toList.drop (k + 1)) := by
          rw [HC.out, HD.out, ba_app, HX.out, List.append_assoc]
          rfl
        have hcl2 : ∀ e ∈ (c ++ s.extract k (k + 1)).data.toList, e ≠ 10 := by
          rw [ba_app, HX.out]
          exact snoc_clean HCL.out hc
        have HN := Lib.hid hnew
        have HC2 := Lib.hid hcl2
        clear hnew hc hcl2
        have hroom : ¬ 9223372036854775807 < c.size + (s.extract k (k + 1)).size := by omega
        go_wp2_with fail
        refine ⟨⟨k + 1, _, done, hlt, rfl, rfl, (by rw [ByteArray.size_append]; omega), by omega, HC2.out, HN.out, HO.out, HK.out, hsz⟩, ?_⟩
        show s.size - ((k : Int) + 1).toNat < s.size - (k : Int).toNat
        omega
    · obtain rfl : k = s.size := by omega
      obtain ⟨e0, e1, e2⟩ := lines_end s c done HCL.out HC.out
      have H0 := Lib.hid e0
      have H1 := Lib.hid e1
      have H2 := Lib.hid e2
      clear e0 e1 e2
      by_cases hz : s.size = 0
      · have hemp : s.toList.isEmpty = true := by rw [toList_empty]; exact decide_eq_true hz
        have HR := Lib.hid (H0.out hz)
        have HZ := Lib.hid hz
        clear hz
        go_wp2_with fail
        go_ret
        exact ⟨_, rfl, by rw [HR.out]; exact HO.out, HK.out⟩
      · have hemp : s.toList.isEmpty = false := by rw [toList_empty]; exact decide_eq_false hz
        have hix : ∀ W, (Instr.index 9 (.string s) (.int .i64 ((s.size : Int) - 1))).run Tryd.prog W = .ok (.int .u8 (s.data.toList.getD (s.size - 1) 0).toNat) W := fun W => by
          have := idx_str s (s.size - 1) (by omega) W
          rwa [show ((s.size - 1 : Nat) : Int) = (s.size : Int) - 1 by omega] at this
        have hs1 : (1 : Int) ≤ (s.size : Int) := by omega
        generalize s.data.toList.getD (s.size - 1) 0 = d at hix H1 H2
        by_cases hd : d = 10
        · have hcb : ((d.toNat : Int) == 10) = true := by rw [hd]; rfl
          have hci : (d.toNat : Int) = 10 := by rw [hd]; rfl
          have HR := Lib.hid (H1.out hz hd)
          clear hd hz
          go_wp2_with fail
          go_ret
          exact ⟨_, rfl, by rw [HR.out]; exact HO.out, HK.out⟩
        · have hcb : ((d.toNat : Int) == 10) = false := beq_eq_false_iff_ne.2 (fun h => hd (by apply UInt8.toNat_inj.1; show d.toNat = 10; omega))
          have hci : ¬ (d.toNat : Int) = 10 := fun h => hd (by apply UInt8.toNat_inj.1; show d.toNat = 10; omega)
          have HR := Lib.hid (H2.out hz hd)
          clear hd hz
          obtain ⟨i0, hi, hz0, hz1, hz2⟩ := info_parts infoStr
          have HI2 := Lib.hid hz2
          clear hz2
          go_wp2_with (first | (at_builtin; refine wpList_appL _ rfl _ _ 59 rfl i0 (.string ⟨#[]⟩) 16 Tryd.underlying59 hi hz0 hz1 HI2.out rfl (by decide) w.heap.size _ done rfl (OwnL.alloc HO.out _) c rfl ⟨wr.heap.size, 0, none⟩ 1 rfl (one_str wr _ _) ?_ ?_ (by decide) ?_ ?_) | fail)
          · first | rfl | (intro u hu; simp at hu; subst hu; rfl)
          · omega
          · first | omega | (rw [size_alloc]; omega)
          intro v4 w4 ho4 hg4 hown4
          have HF := Lib.hid (And.intro ho4 (below_appS HK.out HO.out hsz _ hg4))
          clear ho4 hg4 hown4
          go_wp2_with fail
          go_ret
          exact ⟨_, rfl, by rw [HR.out]; exact HF.out.1, HF.out.2.1⟩

/-! words -/
def lsB (L : List (List UInt8)) : List ByteArray := L.map fun l => ⟨l.toArray⟩
def WordsRel (s : ByteArray) (w : World) (v cur i : Value) (wr : World) : Prop :=
  ∃ (k : Nat) (c : ByteArray) (done : List ByteArray), i = .int .i64 k ∧ cur = .string c ∧ c.size ≤ k ∧ done.length ≤ k ∧
    ((k ≤ s.size ∧ wordsB s = done ++ lsB (wordsGo c.data.toList (s.data.toList.drop k))) ∨ (k = s.size + 1 ∧ wordsB s = done)) ∧ OwnS wr w.heap.size v done ∧ Below w.heap.size w wr ∧ w.heap.size ≤ wr.heap.size
theorem empty_iff (c : ByteArray) : c.data.toList = [] ↔ c.size = 0 := by rw [size_data, List.length_eq_zero_iff]
set_option maxRecDepth 100000 in
set_option maxHeartbeats 2000000 in
theorem words_any (s : ByteArray) (w : World) (hs : s.size ≤ 100000000) :
    Calls Tryd.prog 21 #[.string s] w (ListPost (wordsB s) w) := by
  go_enter Tryd.func21, Tryd.ntmps21
  go_wp2_with fail
  go_loopw [3, 4, 5] (fun v cur i wr => WordsRel s w v cur i wr) (fun _ _ i _ => s.size + 1 - (intOf i).toNat)
  case atStart => exact ⟨0, ⟨#[]⟩, [], rfl, rfl, Nat.le_refl _, Nat.le_refl _, .inl ⟨Nat.zero_le _, rfl⟩, ownL_nil _ _, Below.refl _ _, Nat.le_refl _⟩
  case round =>
    obtain ⟨k, c, done, rfl, rfl, hck, hdk, hcut, hO, hK, hsz⟩ := hrel
    have HO := Lib.hid hO
    have HK := Lib.hid hK
    clear hO hK
    have hk0 : (0 : Int) ≤ (k : Int) := Int.natCast_nonneg _
    rcases hcut with ⟨hk, hcut⟩ | ⟨hk, hcut⟩
    · have hk2 : (k : Int) ≤ (s.size : Int) := by omega
      have endw : ∀ (X : List ByteArray) (r : List UInt8), wordsB s = done ++ lsB (wordsGo c.data.toList (s.data.toList.drop k)) → (c.size ≠ 0 → wordsGo c.data.toList (s.data.toList.drop k) = c.data.toList :: wordsGo [] r) → (c.size = 0 → wordsGo c.data.toList (s.data.toList.drop k) = wordsGo [] r) →
          (c.size ≠ 0 → wordsB s = (done ++ [c]) ++ lsB (wordsGo [] r)) ∧ (c.size = 0 → wordsB s = done ++ lsB (wordsGo [] r)) := fun X r h h1 h2 =>
        ⟨fun hc => by rw [h, h1 hc, List.append_assoc]; rfl, fun hc => by rw [h, h2 hc]⟩
      by_cases hlt : k < s.size
      · have hix := fun W => idx_str s k hlt W
        have hdr := getD_drop0 s k hlt
        have hx1 := ext_one s k hlt
        have hx2 := ext_size s k hlt
        generalize s.data.toList.getD k 0 = d at hix hdr hx1
        have HX := Lib.hid hx1
        clear hx1
        have hk1 : (k : Int) < (s.size : Int) := by omega
        by_cases hc : d = 32
        · have hcb : ((d.toNat : Int) == 32) = true := by rw [hc]; rfl
          have hci : (d.toNat : Int) = 32 := by rw [hc]; rfl
          subst hc
          have hg : ∀ cur, wordsGo cur (s.data.toList.drop k) = if cur = [] then wordsGo [] (s.data.toList.drop (k + 1)) else cur :: wordsGo [] (s.data.toList.drop (k + 1)) := fun cur => by rw [hdr, wordsGo, if_pos rfl]
          obtain ⟨n1, n2⟩ := endw [] (s.data.toList.drop (k + 1)) hcut (fun h => by rw [hg, if_neg (fun e => h ((empty_iff c).1 e))]) (fun h => by rw [hg, if_pos ((empty_iff c).2 h)])
          have N1 := Lib.hid n1
          have N2 := Lib.hid n2
          clear n1 n2 hdr hg hcut endw
          by_cases hz : c.size = 0
          · have hemp : c.toList.isEmpty = true := by rw [toList_empty]; exact decide_eq_true hz
            have HR := Lib.hid (N2.out hz)
            have HZ := Lib.hid hz
            clear hz
            go_wp2_with fail
            refine ⟨⟨k + 1, c, done, rfl, rfl, by omega, by omega, .inl ⟨hlt, by rw [(empty_iff c).2 HZ.out]; exact HR.out⟩, HO.out, HK.out, hsz⟩, ?_⟩
            show s.size + 1 - ((k : Int) + 1).toNat < s.size + 1 - (k : Int).toNat
            omega
          · have hemp : c.toList.isEmpty = false := by rw [toList_empty]; exact decide_eq_false hz
            have HR := Lib.hid (N1.out hz)
            clear hz
            obtain ⟨i0, hi, hz0, hz1, hz2⟩ := info_parts infoStr
            have HI2 := Lib.hid hz2
            clear hz2
            go_wp2_with (first | (at_builtin; refine wpList_appL _ rfl _ _ 59 rfl i0 (.string ⟨#[]⟩) 16 Tryd.underlying59 hi hz0 hz1 HI2.out rfl (by decide) w.heap.size _ done rfl (OwnL.alloc HO.out _) c rfl ⟨wr.heap.size, 0, none⟩ 1 rfl (one_str wr _ _) ?_ ?_ (by decide) ?_ ?_) | fail)
            · first | rfl | (intro u hu; simp at hu; subst hu; rfl)
            · omega
            · first | omega | (rw [size_alloc]; omega)
            intro v4 w4 ho4 hg4 hown4
            have HF := Lib.hid (And.intro ho4 (below_appS HK.out HO.out hsz _ hg4))
            clear ho4 hg4 hown4
            go_wp2_with fail
            refine ⟨⟨k + 1, ⟨#[]⟩, _, rfl, rfl, Nat.zero_le _, (by rw [List.length_append]; simp; omega), .inl ⟨hlt, HR.out⟩, HF.out.1, HF.out.2.1, HF.out.2.2⟩, ?_⟩
            show s.size + 1 - ((k : Int) + 1).toNat < s.size + 1 - (k : Int).toNat
            omega
        · have hcb : ((d.toNat : Int) == 32) = false := beq_eq_false_iff_ne.2 (fun h => hc (by apply UInt8.toNat_inj.1; show d.toNat = 32; omega))
          have hci : ¬ (d.toNat : Int) = 32 := fun h => hc (by apply UInt8.toNat_inj.1; show d.toNat = 32; omega)
          have hnew : wordsB s = done ++ lsB (wordsGo (c ++ s.extract k (k + 1)).data.toList (s.data.toList.drop (k + 1))) := by
            rw [hcut, hdr, ba_app, HX.out, wordsGo, if_neg hc]
          have HN := Lib.hid hnew
          clear hnew hc hdr hcut endw
          have hroom : ¬ 9223372036854775807 < c.size + (s.extract k (k + 1)).size := by omega
          go_wp2_with fail
          refine ⟨⟨k + 1, _, done, rfl, rfl, (by rw [ByteArray.size_append]; omega), by omega, .inl ⟨hlt, HN.out⟩, HO.out, HK.out, hsz⟩, ?_⟩
          show s.size + 1 - ((k : Int) + 1).toNat < s.size + 1 - (k : Int).toNat
          omega
      · obtain rfl : k = s.size := by omega
        have hdr : s.data.toList.drop s.size = [] := List.drop_eq_nil_of_le (by rw [← size_data]; omega)
        have hg : ∀ cur, wordsGo cur (s.data.toList.drop s.size) = if cur = [] then [] else [cur] := fun cur => by rw [hdr]; rfl
        obtain ⟨n1, n2⟩ := endw [] [] hcut (fun h => by rw [hg, if_neg (fun e => h ((empty_iff c).1 e))]; rfl) (fun h => by rw [hg, if_pos ((empty_iff c).2 h)]; rfl)
        have N1 := Lib.hid n1
        have N2 := Lib.hid n2
        clear n1 n2 hdr hg hcut endw
        have nil : lsB (wordsGo [] []) = [] := rfl
        by_cases hz : c.size = 0
        · have hemp : c.toList.isEmpty = true := by rw [toList_empty]; exact decide_eq_true hz
          have HR := Lib.hid (N2.out hz)
          have HNil := Lib.hid nil
          clear hz nil
          go_wp2_with fail
          refine ⟨⟨s.size + 1, c, done, rfl, rfl, by omega, by omega, .inr ⟨rfl, by rw [HR.out, HNil.out, List.append_nil]⟩, HO.out, HK.out, hsz⟩, ?_⟩
          show s.size + 1 - ((s.size : Int) + 1).toNat < s.size + 1 - (s.size : Int).toNat
          omega
        · have hemp : c.toList.isEmpty = false := by rw [toList_empty]; exact decide_eq_false hz
          have HR := Lib.hid (N1.out hz)
          have HNil := Lib.hid nil
          clear hz nil
          obtain ⟨i0, hi, hz0, hz1, hz2⟩ := info_parts infoStr
          have HI2 := Lib.hid hz2
          clear hz2
          go_wp2_with (first | (at_builtin; refine wpList_appL _ rfl _ _ 59 rfl i0 (.string ⟨#[]⟩) 16 Tryd.underlying59 hi hz0 hz1 HI2.out rfl (by decide) w.heap.size _ done rfl (OwnL.alloc HO.out _) c rfl ⟨wr.heap.size, 0, none⟩ 1 rfl (one_str wr _ _) ?_ ?_ (by decide) ?_ ?_) | fail)
          · first | rfl | (intro u hu; simp at hu; subst hu; rfl)
          · omega
          · first | omega | (rw [size_alloc]; omega)
          intro v4 w4 ho4 hg4 hown4
          have HF := Lib.hid (And.intro ho4 (below_appS HK.out HO.out hsz _ hg4))
          clear ho4 hg4 hown4
          go_wp2_with fail
          refine ⟨⟨s.size + 1, ⟨#[]⟩, _, rfl, rfl, Nat.zero_le _, (by rw [List.length_append]; simp; omega), .inr ⟨rfl, by rw [HR.out, HNil.out, List.append_nil]⟩, HF.out.1, HF.out.2.1, HF.out.2.2⟩, ?_⟩
          show s.size + 1 - ((s.size : Int) + 1).toNat < s.size + 1 - (s.size : Int).toNat
          omega
    · have hk3 : ¬ (k : Int) ≤ (s.size : Int) := by omega
      have HR := Lib.hid hcut
      clear hcut
      go_wp2_with fail
      go_ret
      exact ⟨_, rfl, by rw [HR.out]; exact HO.out, HK.out⟩
end Go.Proofs.YtffolbdimkhmmaaDoor
