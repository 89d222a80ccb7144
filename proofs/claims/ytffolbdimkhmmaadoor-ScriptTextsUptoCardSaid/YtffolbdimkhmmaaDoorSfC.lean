import Derived.Test.YtffolbdimkhmmaaDoorSfB
set_option linter.unusedVariables false
set_option linter.unusedSimpArgs false
namespace Go.Proofs.YtffolbdimkhmmaaDoor
open Go Go.RowKit Go.Lib

/-! ### the document's text of steps -/
theorem ownB_len {w : World} {base : Nat} {v : Value} {s : ByteArray} (h : OwnB w base v s) : ∃ ao cap, v = .slice ao s.size cap := by
  rcases h.2 with ⟨h2, h0⟩ | ⟨g, cap, cur, hv, -⟩
  · exact ⟨none, 0, by rw [h2, h0]⟩
  · exact ⟨_, cap, hv⟩
theorem line_fit {x : StP} (hx : x.inR) {b : ByteArray} (h : lineP x = some b) : b.size ≤ stW x := by
  unfold lineP at h
  obtain ⟨f, hf, rfl⟩ := Option.map_eq_some_iff.1 h
  exact (line_size hf x hx).1
def RtRel (L : List StP) (w : World) (v i : Value) (wr : World) : Prop :=
  ∃ (k : Nat) (acc : ByteArray), k ≤ L.length ∧ i = .int .i64 k ∧ tellsP 0 L ⟨#[]⟩ = tellsP k (L.drop k) acc ∧ acc.size + stsW (L.drop k) ≤ stsW L ∧ OwnB wr w.heap.size v acc ∧ Below w.heap.size w wr ∧ w.heap.size ≤ wr.heap.size
set_option maxRecDepth 100000 in
set_option maxHeartbeats 4000000 in
theorem rtext_any (v : Value) (L : List StP) (w : World) (hV : VarsV w) (hL : StM w v L) (hok : ∀ x ∈ L, okS x) (hz : stsW L ≤ 2000000000) :
    Calls Tryd.prog 13 #[v] w (TextPostS L w) := by
  have hlen := sts_len L
  have HV := Lib.hid hV
  have HOk := Lib.hid hok
  obtain ⟨ad, cap, rfl, hcap1, hcap2, hc⟩ := hL
  have HC := Lib.hid hc
  clear hV hok hc
  go_enter Tryd.func13, Tryd.ntmps13
  go_wp2_with fail
  go_loopw [5, 6] (fun v i wr => RtRel L w v i wr) (fun _ i _ => L.length - (intOf i).toNat)
  case atStart => exact ⟨0, ⟨#[]⟩, Nat.zero_le _, rfl, rfl, by show 0 + _ ≤ _; rw [List.drop_zero]; omega, ownB_nil _ _, Below.refl _ _, Nat.le_refl _⟩
  case round =>
    obtain ⟨k, acc, hk, rfl, hT, hfit, hO, hB, hsz⟩ := hrel
    have HO := Lib.hid hO
    have HB := Lib.hid hB
    have hk0 : (0 : Int) ≤ (k : Int) := Int.natCast_nonneg _
    by_cases hlt : k < L.length
    · obtain ⟨x, hx⟩ : ∃ x, L[k]? = some x := ⟨_, List.getElem?_eq_getElem hlt⟩
      obtain ⟨pb, po, kv, hpa, hcc0, hkv⟩ := HC.out k x hx
      subst hpa
      obtain ⟨kad, kcap, rfl, -⟩ := id hkv
      have hcc : ∀ j u, (stepL (x, .slice kad x.keep.length kcap))[j]? = some u → wr.cell? ⟨pb, po + k * 6 + j, none⟩ = some u := fun j u hu => (hB.cell (cell_lt (hcc0 j u hu))).trans (hcc0 j u hu)
      have c0 : wr.cell? ⟨pb, po + k * 6, none⟩ = some (.int .i64 x.kind) := hcc 0 _ rfl
      have c1 := hcc 1 _ rfl
      have c2 := hcc 2 _ rfl
      have c3 := hcc 3 _ rfl
      have c4 := hcc 4 _ rfl
      have c5 := hcc 5 _ rfl
      have hokx := HOk.out x (List.mem_of_getElem? hx)
      have hsd := sts_drop L k x hx
      have hk1 : (k : Int) < (L.length : Int) := by omega
      have hfl := fun b => line_fit (x := x) (b := b) hokx.1
      have HLn := Lib.hid (rline_any x (.slice kad x.keep.length kcap) wr (HV.out.below hB) (hkv.below hB) hokx (by omega))
      have hdr : L.drop k = x :: L.drop (k + 1) := by
        rw [List.drop_eq_getElem_cons hlt]
        congr 1
        rw [List.getElem?_eq_getElem hlt] at hx
        exact Option.some.inj hx
      rw [hdr, tells_cons] at hT
      unfold LinePost at HLn
      cases hl : lineP x with
      | none =>
        rw [hl] at hT HLn
        have hTx : textsP L = (⟨#[]⟩, (k : Int) + 1, 16) := by
          unfold textsP
          rw [hT]
          rfl
        have HTx := Lib.hid hTx
        clear hO hB hT hcc0 hcc hkv hfl hdr hTx hx hl
        go_wp2_with fail
        refine HLn.out.mono ?_
        rintro e w5 ⟨rfl, hb5⟩
        have HB5 := Lib.hid (HB.out.trans (hb5.mono hsz))
        clear hb5 c0 c1 c2 c3 c4 c5 HLn
        go_wp2_with fail
        go_ret3
        exact ⟨by rw [HTx.out]; rfl, HB5.out⟩
      | some b =>
        rw [hl] at hT HLn
        have hbs := hfl b hl
        have HT := Lib.hid hT
        clear hO hB hT hcc0 hcc hkv hfl hdr hx hl
        go_wp2_with fail
        refine HLn.out.mono ?_
        rintro e w5 ⟨rfl, hb5⟩
        have HB5 := Lib.hid (HB.out.trans (hb5.mono hsz))
        have HO5 := Lib.hid (HO.out.below hb5)
        have hs5 := HB5.out.size
        clear hb5 c0 c1 c2 c3 c4 c5 HLn
        go_wp2_with (first | (at_builtin; refine wpList_appS _ rfl rfl _ _ rfl w.heap.size _ acc rfl HO5.out b rfl ?_ ?_ ?_) | fail)
        · omega
        · exact hs5
        intro v2 w2 ho hg
        have HF := Lib.hid (And.intro ho (HB5.out.grown hg hs5 (fun g hg => (HO5.out.lt g hg).1)))
        have hs2 := HF.out.2.size
        clear ho hg
        go_wp2_with fail
        refine ⟨⟨k + 1, acc ++ b, hlt, rfl, HT.out, by rw [ByteArray.size_append]; omega, HF.out.1, HF.out.2, hs2⟩, ?_⟩
        show L.length - ((k : Int) + 1).toNat < L.length - (k : Int).toNat
        omega
    · obtain rfl : k = L.length := by omega
      rw [List.drop_length] at hT
      have hTx : textsP L = if 65536 < acc.size ∨ 1024 < L.length then (⟨#[]⟩, 0, 4) else (acc, 0, 0) := by
        unfold textsP
        rw [hT]
        rfl
      obtain ⟨ao, bc, rfl⟩ := ownB_len hO
      have HR := Lib.hid (run_str hO)
      clear hT hO hB
      by_cases h1 : 65536 < acc.size
      · rw [if_pos (.inl h1)] at hTx
        have HTx := Lib.hid hTx
        have h1i : (65536 : Int) < (acc.size : Int) := by omega
        clear hTx
        go_wp2_with fail
        go_ret3
        exact ⟨by rw [HTx.out]; rfl, HB.out⟩
      · have h1i : ¬ (65536 : Int) < (acc.size : Int) := by omega
        by_cases h2 : 1024 < L.length
        · rw [if_pos (.inr h2)] at hTx
          have HTx := Lib.hid hTx
          have h2i : (1024 : Int) < (L.length : Int) := by omega
          clear hTx
          go_wp2_with fail
          go_ret3
          exact ⟨by rw [HTx.out]; rfl, HB.out⟩
        · rw [if_neg (by omega)] at hTx
          have HTx := Lib.hid hTx
          have h2i : ¬ (1024 : Int) < (L.length : Int) := by omega
          clear hTx
          go_wp2_with fail
          rw [HR.out]
          simp only [Result.andThen]
          rw [Oper.upon_value]
          go_wp2_with fail
          go_ret3
          exact ⟨by rw [HTx.out]; rfl, HB.out⟩
end Go.Proofs.YtffolbdimkhmmaaDoor
