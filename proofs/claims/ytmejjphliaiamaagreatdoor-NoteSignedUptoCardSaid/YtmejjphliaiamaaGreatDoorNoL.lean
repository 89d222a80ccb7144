import Derived.Test.YtmejjphliaiamaaGreatDoorNoK
import Derived.Test.YtmejjphliaiamaaGreatDoorNoF
import Derived.Test.YtmejjphliaiamaaGreatDoorQtW
import Derived.Lib.QuietBelow
set_option linter.unusedVariables false
set_option linter.unusedSimpArgs false
namespace Go.Proofs.YtmejjphliaiamaaGreatDoor
open Go Go.RowKit Go.Lib Go.Sort

theorem bat_below {T e : TypeId} {B b : Nat} {p : Value} {bs : List Value} {w w' : World} (h : Lib.BuilderAtF T e B b p bs w) (k : Below w.heap.size w w') : Lib.BuilderAtF T e B b p bs w' := by
  have hlt := h.lt
  obtain ⟨hB, v, hb, hown, hne⟩ := h
  exact ⟨hB, v, blk_later hb k, hown.kept (row := none) ⟨k.os, k.tape, k.output, k.size, fun i hi _ => k.block i hi⟩ (by cases hv : v.ownBlock <;> simp), hne⟩
theorem sigLine_eq (x : SigT) : (⟨#[115, 105, 103, 32]⟩ : ByteArray) ++ hexB x.1 ++ ⟨#[32]⟩ ++ hexB x.2 ++ ⟨#[10]⟩ = sigLine x := rfl
def FmtRel (B : Nat) (t : ByteArray) (L : List SigT) (w0 : World) (i : Value) (wr : World) : Prop := ∃ k : Nat, k ≤ L.length ∧ i = .int .i64 k ∧ Lib.BuilderAtF TB 5 B B (.pointer (some ⟨B, 0, none⟩)) (Lib.strCells (t ++ nlB ++ sigsT (L.take k))) wr ∧ Below B w0 wr ∧ B ≤ wr.heap.size

set_option maxRecDepth 100000 in
set_option maxHeartbeats 2000000 in
theorem format_any (t : ByteArray) (ad : Option Addr) (L : List SigT) (c : Nat) (w : World) (ht : t.size < 4294967281) (hn : L.length ≤ 9223372036854775807) (hL : SigsM w ad L) (hV : VarsV w) :
    Calls Tryz.prog 81 #[.agg #[.string t, .slice ad L.length c]] w fun e w' => e = .returned (.tuple #[.string (fmtV t L).1, .int .i64 (fmtV t L).2]) ∧ Below w.heap.size w w' := by
  have HV := Lib.hid hV
  have HL := Lib.hid hL
  have HG := Lib.hid (fun W (h1 : SigsM W ad L) (h2 : VarsV W) => good_any t ad L c W ht hn h1 h2)
  clear hV hL
  cases hg : noteG t L with
  | false =>
    rw [hg] at HG
    rw [fmtV_bad hg]
    clear hg
    go_enter Tryz.func81, Tryz.ntmps81
    go_wp2_with fail
    refine (HG.out _ (HL.out.below ((Below.refl _ _).alloc (Nat.le_refl _) _)) (HV.out.alloc _)).mono ?_
    rintro e w1 ⟨rfl, hb⟩
    have HK := Lib.hid (((Below.refl w.heap.size w).alloc (Nat.le_refl _) (.cells #[.string t, .slice ad L.length c] 69)).trans (hb.mono (by rw [size_alloc]; omega)))
    clear hb
    go_wp2_with fail
    go_ret2
    exact ⟨rfl, HK.out⟩
  | true =>
    rw [hg] at HG
    rw [fmtV_good hg]
    have hgs := good_sigs hg
    have HS := Lib.hid hgs
    have hfin : L.take L.length = L := List.take_length
    have m1 : ¬ 9223372036854775807 < t.size + 1 := by omega
    clear hg hgs
    go_enter Tryz.func81, Tryz.ntmps81
    go_wp2_with fail
    refine (HG.out _ (HL.out.below ((Below.refl _ _).alloc (Nat.le_refl _) _)) (HV.out.alloc _)).mono ?_
    rintro e w1 ⟨rfl, hb⟩
    have hN : NtAt w1 w.heap.size t (.slice ad L.length c) := blk_later (blk_new _ _) hb
    have hK : Below w.heap.size w w1 := ((Below.refl w.heap.size w).alloc (Nat.le_refl _) _).trans (hb.mono (by rw [size_alloc]; omega))
    have HN := Lib.hid hN
    have HK := Lib.hid hK
    have c0 : w1.cell? ⟨w.heap.size, 0, none⟩ = some (.string t) := cell_of_blk hN 0 rfl
    have c0a := fun o => cell_alloc c0 o
    have HB0 := Lib.hid (builder_new w1)
    clear hb hN hK HG
    go_wp2_with fail
    refine (bwrite_any w1.heap.size w1.heap.size [] (t ++ nlB) _ HB0.out (by rw [ByteArray.size_append]; have : nlB.size = 1 := rfl; simp; omega) (by rw [size_alloc]; omega)).mono ?_
    rintro e w2 ⟨rfl, hb2, hk2⟩
    have hlt : w.heap.size < w1.heap.size := (Array.getElem?_eq_some_iff.1 HN.out).1
    have c1 : w2.cell? ⟨w.heap.size, 1, none⟩ = some (.slice ad L.length c) := by
      have h1 := cell_of_blk (blk_alloc HN.out (.cells #[.pointer none, .slice none 0 0] 166)) 1 rfl
      exact (hk2.cell (p := ⟨w.heap.size, 1, none⟩) hlt).trans h1
    have hKK : Below w.heap.size w w2 := (HK.out.alloc HK.out.size _).trans (hk2.mono (by omega))
    have HK2 := Lib.hid hKK
    have HB2 := Lib.hid hb2
    clear hb2 hk2 hKK c0 c0a HB0
    have hs12 : w1.heap.size ≤ w2.heap.size := Nat.le_of_lt HB2.out.lt
    go_wp2_with fail
    go_loopw [17] (fun i wr => FmtRel w1.heap.size t L w2 i wr) (fun i _ => L.length - (intOf i).toNat)
    case atStart =>
      refine ⟨0, Nat.zero_le _, rfl, ?_, Below.refl _ _, hs12⟩
      have e : t ++ nlB ++ sigsT (L.take 0) = t ++ nlB := by show t ++ nlB ++ (⟨#[]⟩ : ByteArray) = _; exact ByteArray.append_empty
      rw [e]
      exact HB2.out
    case round =>
      obtain ⟨k, hk, rfl, hB, hK, hsz⟩ := hrel
      have HB := Lib.hid hB
      have hKr := hK
      have HKr := Lib.hid hK
      have hKw := HK2.out.trans (hK.mono HK.out.size)
      have HKw := Lib.hid hKw
      clear hB hK hKr hKw
      by_cases hlt2 : k < L.length
      · obtain ⟨pb, po, rfl, s0, s1⟩ := (HL.out.below HKw.out) k L[k] (List.getElem?_eq_getElem hlt2)
        have hx := HS.out.2 L[k] (List.getElem_mem hlt2)
        have htk : L.take (k + 1) = L.take k ++ [L[k]] := List.take_succ_eq_append_getElem hlt2
        generalize L[k] = x at s0 s1 hx htk
        have HT := Lib.hid htk
        have hk0 : (0 : Int) ≤ (k : Int) := Int.natCast_nonneg _
        have hk1 : (k : Int) < (L.length : Int) := by omega
        clear htk
        have HH1 := Lib.hid (fun W => hex_any x.1 W (by omega))
        have HH2 := Lib.hid (fun W => hex_any x.2 W (by omega))
        have y1 : (hexB x.1).size ≤ 64 := by rw [hexB_size]; omega
        have y2 : (hexB x.2).size ≤ 2048 := by rw [hexB_size]; omega
        have n1 : ¬ 9223372036854775807 < 4 + (hexB x.1).size := by omega
        have n2 : ¬ 9223372036854775807 < 4 + (hexB x.1).size + 1 := by omega
        have n3 : ¬ 9223372036854775807 < 4 + (hexB x.1).size + 1 + (hexB x.2).size := by omega
        have n4 : ¬ 9223372036854775807 < 4 + (hexB x.1).size + 1 + (hexB x.2).size + 1 := by omega
        go_wp2_with fail
        generalize hw2 : wr.alloc (.cells #[.string x.1, .string x.2] 54) = w4
        have hb4 : Below w1.heap.size w2 w4 := by rw [← hw2]; exact HKr.out.alloc hsz _
        have hB4 : Lib.BuilderAtF TB 5 w1.heap.size w1.heap.size (.pointer (some ⟨w1.heap.size, 0, none⟩)) (Lib.strCells (t ++ nlB ++ sigsT (L.take k))) w4 := by rw [← hw2]; exact HB.out.alloc _
        have hx4 : w4.heap[wr.heap.size]? = some (.cells #[.string x.1, .string x.2] 54 (0, 0)) := by rw [← hw2]; exact blk_new _ _
        have hz4 : w1.heap.size ≤ w4.heap.size := by rw [← hw2, size_alloc]; omega
        have q0 := cell_regrown (cell_of_blk hx4 0 (v := .string x.1) rfl)
        have q1 := cell_regrown (cell_of_blk hx4 1 (v := .string x.2) rfl)
        have cP : ∀ d os, Calls Tryz.prog 132 #[.string x.1] (grow (redrawn w4 d) os) fun e w'' => e = .returned (.string (hexB x.1)) ∧ ∃ p : Regrown, w'' = grow (redrawn w4 p.d) p.os :=
          fun d os => Calls.regrown_of (HH1.out _)
        have cR : ∀ d os, Calls Tryz.prog 132 #[.string x.2] (grow (redrawn w4 d) os) fun e w'' => e = .returned (.string (hexB x.2)) ∧ ∃ p : Regrown, w'' = grow (redrawn w4 p.d) p.os :=
          fun d os => Calls.regrown_of (HH2.out _)
        have H4 := Lib.hid hb4
        have HB4 := Lib.hid hB4
        have HX := Lib.hid hx
        clear hw2 hb4 hB4 hx4 hx
        refine wp_region_quiet_tail_below 10 (by kernel_rfl) (by kernel_rfl) ?_
        simp only [List.take_succ_cons, List.take_zero, List.drop_succ_cons, List.drop_zero]
        repeat (first | quiet_step (with_reducible exact cP _ _) | quiet_step (with_reducible exact cR _ _))
        refine wpQuiet_nil ?_
        intro w5 hw5
        obtain ⟨⟨dq, osq⟩, hw''⟩ := hw5
        have hb5 : Below w4.heap.size w4 w5 := by rw [hw'']; exact below_regrown w4 dq osq
        have hB5 := bat_below HB4.out hb5
        have H5 := Lib.hid (H4.out.trans (hb5.mono hz4))
        have hz5 : w1.heap.size ≤ w5.heap.size := Nat.le_trans hz4 hb5.size
        have hsl := sigLine_size x
        have htl := sigsT_le (L.take k) (fun y hy => HS.out.2 y (List.mem_of_mem_take hy))
        have hkl : (L.take k).length ≤ 16 := by rw [List.length_take]; have := HS.out.1; omega
        have hW := bwrite_any w1.heap.size w1.heap.size (Lib.strCells (t ++ nlB ++ sigsT (L.take k))) (sigLine x) w5 (.inr hB5) (by rw [strCells_length, ByteArray.size_append, ByteArray.size_append]; have h1 : nlB.size = 1 := rfl; have := HX.out; omega) hz5
        rw [← strCells_append] at hW
        have hfin : t ++ nlB ++ sigsT (L.take k) ++ sigLine x = t ++ nlB ++ sigsT (L.take (k + 1)) := by rw [HT.out, sigsT_snoc, ← ByteArray.append_assoc]
        rw [hfin, ← sigLine_eq x] at hW
        have HW := Lib.hid hW
        clear hw'' hb5 hB5 hW hfin htl hkl hsl cP cR q0 q1
        go_wp2_with fail
        refine HW.out.mono ?_
        rintro e w6 ⟨rfl, hB6, hb6⟩
        have HF := Lib.hid (⟨hB6, H5.out.trans hb6, Nat.le_trans hz5 hb6.size⟩ : Lib.BuilderAtF TB 5 w1.heap.size w1.heap.size (.pointer (some ⟨w1.heap.size, 0, none⟩)) (Lib.strCells (t ++ nlB ++ sigsT (L.take (k + 1)))) w6 ∧ Below w1.heap.size w2 w6 ∧ w1.heap.size ≤ w6.heap.size)
        clear hB6 hb6
        go_wp2_with fail
        refine ⟨⟨k + 1, hlt2, rfl, HF.out⟩, ?_⟩
        show L.length - ((k : Int) + 1).toNat < L.length - (k : Int).toNat
        omega
      · have hkn : k = L.length := by omega
        subst hkn
        have hb3 := HB.out
        rw [hfin] at hb3
        have hne : (t ++ nlB ++ sigsT L).data.toList ≠ [] := by
          intro h
          have := congrArg List.length h
          simp [nlB] at this
        have hcell : Lib.strCells (t ++ nlB ++ sigsT L) = Lib.byteCells (t ++ nlB ++ sigsT L).data.toList := rfl
        rw [hcell] at hb3
        have HS3 := Lib.hid (Tryz.Builder_String_f w1.heap.size w1.heap.size (t ++ nlB ++ sigsT L).data.toList wr (.inr hb3) hne)
        have harr : (⟨(t ++ nlB ++ sigsT L).data.toList.toArray⟩ : ByteArray) = t ++ nlB ++ sigsT L := by rw [Array.toArray_toList]
        rw [harr] at HS3
        clear hb3 hne hcell harr HB
        go_wp2_with fail
        refine HS3.out.mono ?_
        rintro e w3 ⟨rfl, -, hb⟩
        have HBz := Lib.hid (HKw.out.trans (hb.mono HK.out.size))
        clear hb
        go_wp2_with fail
        go_ret2
        exact ⟨rfl, HBz.out⟩
end Go.Proofs.YtmejjphliaiamaaGreatDoor
