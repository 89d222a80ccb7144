import Derived.Test.YtmejjphliaiamaaGreatDoorNoT
set_option linter.unusedVariables false
set_option linter.unusedSimpArgs false
namespace Go.Proofs.YtmejjphliaiamaaGreatDoor
open Go Go.RowKit Go.Lib Go.Sort

def RfRel (t : ByteArray) (L : List SigT) (w0 : World) (s i : Value) (wr : World) : Prop := ∃ k : Nat, k ≤ L.length ∧ i = .int .i64 k ∧ s = .string (t ++ nlB ++ sigsT (L.take k)) ∧ Below w0.heap.size w0 wr

set_option maxRecDepth 100000 in
set_option maxHeartbeats 2000000 in
theorem rformat_any (t : ByteArray) (ad : Option Addr) (L : List SigT) (c : Nat) (w : World) (ht : t.size ≤ 100000000) (hn : L.length ≤ 100000000) (hL : SigsM w ad L) :
    Calls Tryz.prog 31 #[.agg #[.string t, .slice ad L.length c]] w fun e w' => e = .returned (.tuple #[.string (fmtV t L).1, .int .i64 (fmtV t L).2]) ∧ Below w.heap.size w w' := by
  have HL := Lib.hid hL
  have HG := Lib.hid (fun W (h1 : SigsM W ad L) => rgood_any t ad L c W ht hn h1)
  clear hL
  cases hg : noteG t L with
  | false =>
    rw [hg] at HG
    rw [fmtV_bad hg]
    clear hg
    go_enter Tryz.func31, Tryz.ntmps31
    go_wp2_with fail
    refine (HG.out _ (HL.out.below ((Below.refl _ _).alloc (Nat.le_refl _) _))).mono ?_
    rintro e w1 ⟨rfl, hb⟩
    have HK := Lib.hid (((Below.refl w.heap.size w).alloc (Nat.le_refl _) (.cells #[.string t, .slice ad L.length c] 69)).trans (hb.mono (by rw [size_alloc]; omega)))
    clear hb
    go_wp2_with fail
    go_ret2
    exact ⟨rfl, HK.out⟩
  | true =>
    rw [hg] at HG
    rw [fmtV_good hg]
    have hgs := good_sigs hg
    have HS := Lib.hid hgs
    have hfin : L.take L.length = L := List.take_length
    have HFin := Lib.hid hfin
    have m1 : ¬ 9223372036854775807 < t.size + 1 := by omega
    clear hg hgs hfin
    go_enter Tryz.func31, Tryz.ntmps31
    go_wp2_with fail
    refine (HG.out _ (HL.out.below ((Below.refl _ _).alloc (Nat.le_refl _) _))).mono ?_
    rintro e w1 ⟨rfl, hb⟩
    have hN : NtAt w1 w.heap.size t (.slice ad L.length c) := blk_later (blk_new _ _) hb
    have hK : Below w.heap.size w w1 := ((Below.refl w.heap.size w).alloc (Nat.le_refl _) _).trans (hb.mono (by rw [size_alloc]; omega))
    have HN := Lib.hid hN
    have HK := Lib.hid hK
    have c0 : w1.cell? ⟨w.heap.size, 0, none⟩ = some (.string t) := cell_of_blk hN 0 rfl
    clear hb hN hK HG
    go_wp2_with fail
    clear c0
    go_loopw [4, 5] (fun s i wr => RfRel t L w1 s i wr) (fun _ i _ => L.length - (intOf i).toNat)
    case atStart =>
      refine ⟨0, Nat.zero_le _, rfl, ?_, Below.refl _ _⟩
      have e : t ++ nlB ++ sigsT (L.take 0) = t ++ nlB := by show t ++ nlB ++ (⟨#[]⟩ : ByteArray) = _; exact ByteArray.append_empty
      rw [e]
      rfl
    case round =>
      obtain ⟨k, hk, rfl, rfl, hB⟩ := hrel
      have HB := Lib.hid hB
      have HN2 := Lib.hid (blk_later HN.out hB)
      have HKw := Lib.hid (HK.out.trans (hB.mono HK.out.size))
      clear hB
      have n1 := cell_of_blk HN2.out 1 (v := .slice ad L.length c) rfl
      by_cases hlt2 : k < L.length
      · obtain ⟨pb, po, rfl, s0, s1⟩ := (HL.out.below HKw.out) k L[k] (List.getElem?_eq_getElem hlt2)
        have hx := HS.out.2 L[k] (List.getElem_mem hlt2)
        have htk : L.take (k + 1) = L.take k ++ [L[k]] := List.take_succ_eq_append_getElem hlt2
        generalize L[k] = x at s0 s1 hx htk
        have htl := sigsT_le (L.take k) (fun y hy => HS.out.2 y (List.mem_of_mem_take hy))
        have hkl : (L.take k).length ≤ 16 := by rw [List.length_take]; have := HS.out.1; omega
        have hS : t ++ nlB ++ sigsT (L.take (k + 1)) = t ++ nlB ++ sigsT (L.take k) ++ ⟨#[115, 105, 103, 32]⟩ ++ hexB x.1 ++ ⟨#[32]⟩ ++ hexB x.2 ++ ⟨#[10]⟩ := by
          rw [htk, sigsT_snoc, ← sigLine_eq x]
          simp only [ByteArray.append_assoc]
        have HT := Lib.hid hS
        have hk0 : (0 : Int) ≤ (k : Int) := Int.natCast_nonneg _
        have hk1 : (k : Int) < (L.length : Int) := by omega
        have HH1 := Lib.hid (fun W => rhex_any x.1 W (by omega))
        have HH2 := Lib.hid (fun W => rhex_any x.2 W (by omega))
        have y1 : (hexB x.1).size ≤ 64 := by rw [hexB_size]; omega
        have y2 : (hexB x.2).size ≤ 2048 := by rw [hexB_size]; omega
        have y3 : (t ++ nlB ++ sigsT (L.take k)).size ≤ 200000000 := by
          rw [ByteArray.size_append, ByteArray.size_append]; have : nlB.size = 1 := rfl; omega
        clear htk hS htl hkl hx
        generalize t ++ nlB ++ sigsT (L.take k) = cur at y3 HT
        have p1 : ¬ 9223372036854775807 < cur.size + 4 := by omega
        have p2 : ¬ 9223372036854775807 < cur.size + 4 + (hexB x.1).size := by omega
        have p3 : ¬ 9223372036854775807 < cur.size + 4 + (hexB x.1).size + 1 := by omega
        have p4 : ¬ 9223372036854775807 < cur.size + 4 + (hexB x.1).size + 1 + (hexB x.2).size := by omega
        have p5 : ¬ 9223372036854775807 < cur.size + 4 + (hexB x.1).size + 1 + (hexB x.2).size + 1 := by omega
        have n1r := cell_regrown n1
        have s0r := cell_regrown s0
        have s1r := cell_regrown s1
        have cP : ∀ d os, Calls Tryz.prog 84 #[.string x.1] (grow (redrawn wr d) os) fun e w'' => e = .returned (.string (hexB x.1)) ∧ ∃ p : Regrown, w'' = grow (redrawn wr p.d) p.os :=
          fun d os => Calls.regrown_of (HH1.out _)
        have cR : ∀ d os, Calls Tryz.prog 84 #[.string x.2] (grow (redrawn wr d) os) fun e w'' => e = .returned (.string (hexB x.2)) ∧ ∃ p : Regrown, w'' = grow (redrawn wr p.d) p.os :=
          fun d os => Calls.regrown_of (HH2.out _)
        go_wp2_with fail
        refine wp_region_quiet_below (by kernel_rfl) (by kernel_rfl) ?_
        repeat (first | quiet_step (with_reducible exact cP _ _) | quiet_step (with_reducible exact cR _ _))
        refine wpQuiet_nil ?_
        intro w5 hw5
        obtain ⟨⟨dq, osq⟩, hw''⟩ := hw5
        have hb5 : Below wr.heap.size wr w5 := by rw [hw'']; exact below_regrown wr dq osq
        have H5 := Lib.hid (HB.out.trans (hb5.mono HB.out.size))
        clear hw'' hb5 cP cR n1 n1r s0 s0r s1 s1r
        go_wp2_with fail
        refine ⟨⟨k + 1, hlt2, rfl, ?_, H5.out⟩, ?_⟩
        · rw [HT.out]
        show L.length - ((k : Int) + 1).toNat < L.length - (k : Int).toNat
        omega
      · have hkn : k = L.length := by omega
        subst hkn
        rw [HFin.out]
        go_wp2_with fail
        go_ret2
        exact ⟨rfl, HKw.out⟩
end Go.Proofs.YtmejjphliaiamaaGreatDoor
