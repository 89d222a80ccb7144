import Derived.Test.YtmejjphliaiamaaGreatDoorQuA
import Derived.Test.YtmejjphliaiamaaGreatDoorPkE
import Derived.Test.YtmejjphliaiamaaGreatDoorSg
set_option linter.unusedVariables false
set_option linter.unusedSimpArgs false
namespace Go.Proofs.YtmejjphliaiamaaGreatDoor
open Go Go.RowKit Go.Lib

/-! ### signatures taken -/
theorem beL1 (l : List UInt8) (h : l.length ≤ 1) : beL l ≤ 255 := by
  match l, h with
  | [], _ => exact Nat.zero_le _
  | [c], _ => have := c.toNat_lt; show 256 * 0 + c.toNat ≤ 255; omega
  | _ :: _ :: _, h => simp at h
theorem rNum1 (r : RS) : ∃ n : Nat, (rNum r 1).1 = n ∧ n ≤ 255 := ⟨_, rfl, beL1 _ (rRaw_len r 1)⟩
theorem rTxt_sz (r : RS) (most : Int) : (rTxt r most).2.1.size ≤ r.1.size := by
  unfold rTxt
  split
  · exact Nat.le_refl _
  · show (if _ then _ else _ : RS).1.size ≤ _
    split
    · exact Nat.le_refl _
    · exact Nat.le_trans (rRaw_size _ _).2 (rTxt2_size r most)
def takeN (r : RS) : Nat → List SigT × RS
  | 0 => ([], r)
  | k + 1 => ((takeN r k).1 ++ [((rRaw (takeN r k).2 32).1, (rTxt (rRaw (takeN r k).2 32).2 1024).1)], (rTxt (rRaw (takeN r k).2 32).2 1024).2)
def takeP (r : RS) : List SigT × RS := (if (takeN (rNum r 1).2 (rNum r 1).1.toNat).2.2 = 0 then (takeN (rNum r 1).2 (rNum r 1).1.toNat).1 else [], (takeN (rNum r 1).2 (rNum r 1).1.toNat).2)
theorem takeN_size (r : RS) : ∀ k, (takeN r k).2.1.size ≤ r.1.size
  | 0 => Nat.le_refl _
  | k + 1 => Nat.le_trans (rTxt_sz _ _) (Nat.le_trans (rRaw_size _ _).2 (takeN_size r k))
theorem takeN_len (r : RS) : ∀ k, (takeN r k).1.length = k
  | 0 => rfl
  | k + 1 => by show ((takeN r k).1 ++ [_]).length = k + 1; rw [List.length_append, takeN_len r k]; rfl
def TsRel (T : TypeId) (w0 : World) (b : Nat) (r : RS) (n : Nat) (l i : Value) (wr : World) : Prop := ∃ k : Nat, k ≤ n ∧ i = .int .i64 k ∧ OwnG wr w0.heap.size l (takeN r k).1 ∧ RdP T b (takeN r k).2 w0 wr
def TsPost (T : TypeId) (b : Nat) (q : List SigT × RS) (w : World) (e : Ending) (w' : World) : Prop := ∃ v, e = .returned v ∧ OwnG w' w.heap.size v q.1 ∧ RdP T b q.2 w w'
theorem Rdr.lt {T : TypeId} {w : World} {b : Nat} {r : RS} (h : Rdr T w b r) : b < w.heap.size := (Array.getElem?_eq_some_iff.1 h).1
theorem OwnG.rd {T : TypeId} {b : Nat} {r : RS} {w0 w w' : World} {v : Value} {L : List SigT} (h : OwnG w w0.heap.size v L) (hb : b < w0.heap.size) (k : RdP T b r w w') : OwnG w' w0.heap.size v L :=
  OwnL.kp h k.2 (fun g hg => by have := (OwnL.lt h g hg).1; omega)

set_option maxRecDepth 100000 in
set_option maxHeartbeats 2000000 in
theorem takesigs_any (b : Nat) (r : RS) (w : World) (hs : r.1.size ≤ 9223372036854775807) (h : Rdr 136 w b r) :
    Calls Tryz.prog 55 #[.pointer (some ⟨b, 0, none⟩)] w (TsPost 136 b (takeP r) w) := by
  have HC := Lib.hid (r1_any b r w hs h)
  have hbw := h.lt
  have HBW := Lib.hid hbw
  obtain ⟨n, hn, hn255⟩ := rNum1 r
  have hz1 : (rNum r 1).2.1.size ≤ r.1.size := (rRaw_size r 1).2
  have htp : takeP r = (if (takeN (rNum r 1).2 n).2.2 = 0 then (takeN (rNum r 1).2 n).1 else [], (takeN (rNum r 1).2 n).2) := by unfold takeP; rw [hn]; rfl
  rw [htp]
  rw [hn] at HC
  clear h htp hn hbw
  generalize (rNum r 1).2 = r1 at HC hz1 ⊢
  unfold TsPost
  obtain ⟨qn, hqn⟩ : ∃ qn, qn = takeN r1 n := ⟨_, rfl⟩
  rw [← hqn]
  have HQ := Lib.hid hqn
  clear hqn
  go_enter Tryz.func55, Tryz.ntmps55
  go_wp2_with fail
  refine HC.out.mono ?_
  rintro e w1 ⟨rfl, h1⟩
  have H1 := Lib.hid h1
  clear h1 HC
  go_wp2_with fail
  go_loopw [3, 7] (fun l i wr => TsRel 136 w b r1 n l i wr) (fun _ i _ => n - (intOf i).toNat)
  case atStart => exact ⟨0, Nat.zero_le _, rfl, ownL_nil _ _, H1.out⟩
  case round =>
    obtain ⟨k, hk, rfl, hO, hR⟩ := hrel
    have HO := Lib.hid hO
    have HR := Lib.hid hR
    have hsz := takeN_size r1 k
    have hln := Lib.hid (takeN_len r1 k)
    clear hO hR H1
    by_cases hlt : k < n
    · have ht1 : (takeN r1 (k + 1)).1 = (takeN r1 k).1 ++ [((rRaw (takeN r1 k).2 32).1, (rTxt (rRaw (takeN r1 k).2 32).2 1024).1)] := rfl
      have ht2 : (takeN r1 (k + 1)).2 = (rTxt (rRaw (takeN r1 k).2 32).2 1024).2 := rfl
      have HT1 := Lib.hid ht1
      have HT2 := Lib.hid ht2
      have hk0 : (k : Int) < (n : Int) := by omega
      clear ht1 ht2
      generalize (takeN r1 k).2 = ra at HR HT1 HT2 hsz
      generalize (takeN r1 k).1 = L at HO HT1 hln
      obtain ⟨ao, cap, rfl, -, -, -⟩ := OwnL.form HO.out
      have hz2 := (rRaw_size ra 32).2
      have HC1 := Lib.hid (rhash_any b ra wr (by omega) HR.out.1)
      generalize (rRaw ra 32).1 = x1 at HC1 HT1
      generalize (rRaw ra 32).2 = rb at HC1 HT1 HT2 hz2
      go_wp2_with fail
      refine HC1.out.mono ?_
      rintro e w2 ⟨rfl, h2⟩
      have HC2 := Lib.hid (rtxt_any b rb 1024 w2 (by decide) (by omega) h2.1)
      have HO2 := Lib.hid (HO.out.rd HBW.out h2)
      have HR2 := Lib.hid (HR.out.trans h2)
      clear h2 HO HR HC1
      generalize (rTxt rb 1024).1 = x2 at HC2 HT1
      generalize (rTxt rb 1024).2 = rc at HC2 HT2
      go_wp2_with fail
      refine HC2.out.mono ?_
      rintro e w3 ⟨rfl, h3⟩
      have HO3 := Lib.hid (HO2.out.rd HBW.out h3)
      have HR3 := Lib.hid (HR2.out.trans h3)
      clear h3 HO2 HR2 HC2
      obtain ⟨i0, hi, hz0, hz1', hz2'⟩ := info_parts infoSig
      have HI2 := Lib.hid hz2'
      clear hz2'
      go_wp2_with (first | (at_builtin; refine wpList_appL _ rfl _ _ 41 rfl i0 (.agg #[.string ⟨#[]⟩, .string ⟨#[]⟩]) 32 Tryz.underlying41 hi hz0 hz1' HI2.out rfl (by decide) w.heap.size (.slice ao L.length cap) L rfl (OwnL.alloc HO3.out _) (x1, x2) rfl ⟨w3.heap.size, 0, none⟩ 1 rfl (one_sig w3 (x1, x2) _) ?_ ?_ (by decide) ?_ ?_) | fail)
      · exact ⟨rfl, rfl⟩
      · have := hln.out; omega
      · rw [size_alloc]; have := HR3.out.2.size; omega
      intro v5 w5 ho5 hg5 hown5
      have hown := OwnL.lt HO3.out
      have hk5 : Kp (fun k => (Value.slice ao L.length cap).ownBlock = some k) w3 w5 := ((Kp.refl (fun k => (Value.slice ao L.length cap).ownBlock = some k) w3).alloc _).grown hg5 (fun k h => .inl h)
      have hr5 : RdP 136 b rc w w5 := ⟨blk_kp HR3.out.1 hk5 (fun h => by have := (hown _ h).1; have := HBW.out; omega), HR3.out.2.trans' hk5 (fun i hi => .inr (hown _ hi).1)⟩
      have HR5 := Lib.hid hr5
      have HO5 := Lib.hid ho5
      clear hk5 hr5 hown ho5 hg5 hown5 HO3 HR3
      go_wp2_with fail
      refine ⟨⟨k + 1, hlt, rfl, ?_, ?_⟩, ?_⟩
      · rw [HT1.out]; exact HO5.out
      · rw [HT2.out]; exact HR5.out
      · show n - ((k : Int) + 1).toNat < n - (k : Int).toNat
        omega
    · obtain rfl : k = n := by omega
      have hO := HO.out
      have hR := HR.out
      rw [← HQ.out] at hO hR
      obtain ⟨ao, cap, rfl, -, -, -⟩ := OwnL.form hO
      have HC1 := Lib.hid (err_any b qn.2 wr hR.1)
      have HO2 := Lib.hid hO
      have HR2 := Lib.hid hR
      clear hO hR HO HR hln hsz
      by_cases he : qn.2.2 = 0
      · have hb : (qn.2.2 == 0) = true := beq_iff_eq.2 he
        have hb2 : (qn.2.2 != 0) = false := by rw [bne, hb]; rfl
        have HE := Lib.hid he
        clear he
        go_wp2_with fail
        refine HC1.out.mono ?_
        rintro e w2 ⟨rfl, rfl⟩
        go_wp2_with fail
        go_ret
        exact ⟨_, rfl, HO2.out, HR2.out⟩
      · have hb : (qn.2.2 == 0) = false := beq_eq_false_iff_ne.2 he
        have hb2 : (qn.2.2 != 0) = true := by rw [bne, hb]; rfl
        have HE := Lib.hid he
        clear he
        go_wp2_with fail
        refine HC1.out.mono ?_
        rintro e w2 ⟨rfl, rfl⟩
        go_wp2_with fail
        go_ret
        exact ⟨_, rfl, ownL_nil _ _, HR2.out⟩

set_option maxRecDepth 100000 in
set_option maxHeartbeats 2000000 in
theorem qtakesigs_any (b : Nat) (r : RS) (w : World) (hs : r.1.size ≤ 9223372036854775807) (h : Rdr 141 w b r) :
    Calls Tryz.prog 58 #[.pointer (some ⟨b, 0, none⟩)] w (TsPost 141 b (takeP r) w) := by
  have HC := Lib.hid (qnum_any b r 1 w (by decide) hs h)
  have hbw := h.lt
  have HBW := Lib.hid hbw
  obtain ⟨n, hn, hn255⟩ := rNum1 r
  have hz1 : (rNum r 1).2.1.size ≤ r.1.size := (rRaw_size r 1).2
  have htp : takeP r = (if (takeN (rNum r 1).2 n).2.2 = 0 then (takeN (rNum r 1).2 n).1 else [], (takeN (rNum r 1).2 n).2) := by unfold takeP; rw [hn]; rfl
  rw [htp]
  rw [qNum_small r (by decide), show ((1 : Nat) : Int) = 1 from rfl, hn] at HC
  clear h htp hn hbw
  generalize (rNum r 1).2 = r1 at HC hz1 ⊢
  unfold TsPost
  obtain ⟨qn, hqn⟩ : ∃ qn, qn = takeN r1 n := ⟨_, rfl⟩
  rw [← hqn]
  have HQ := Lib.hid hqn
  clear hqn
  go_enter Tryz.func58, Tryz.ntmps58
  go_wp2_with fail
  refine HC.out.mono ?_
  rintro e w1 ⟨rfl, h1⟩
  have H1 := Lib.hid h1
  clear h1 HC
  go_wp2_with fail
  go_loopw [3, 5] (fun l i wr => TsRel 141 w b r1 n l i wr) (fun _ i _ => n - (intOf i).toNat)
  case atStart => exact ⟨0, Nat.zero_le _, rfl, ownL_nil _ _, H1.out⟩
  case round =>
    obtain ⟨k, hk, rfl, hO, hR⟩ := hrel
    have HO := Lib.hid hO
    have HR := Lib.hid hR
    have hsz := takeN_size r1 k
    have hln := Lib.hid (takeN_len r1 k)
    clear hO hR H1
    by_cases hlt : k < n
    · have ht1 : (takeN r1 (k + 1)).1 = (takeN r1 k).1 ++ [((rRaw (takeN r1 k).2 32).1, (rTxt (rRaw (takeN r1 k).2 32).2 1024).1)] := rfl
      have ht2 : (takeN r1 (k + 1)).2 = (rTxt (rRaw (takeN r1 k).2 32).2 1024).2 := rfl
      have HT1 := Lib.hid ht1
      have HT2 := Lib.hid ht2
      have hk0 : (k : Int) < (n : Int) := by omega
      clear ht1 ht2
      generalize (takeN r1 k).2 = ra at HR HT1 HT2 hsz
      generalize (takeN r1 k).1 = L at HO HT1 hln
      obtain ⟨ao, cap, rfl, -, -, -⟩ := OwnL.form HO.out
      have hz2 := (rRaw_size ra 32).2
      have HC1 := Lib.hid (qraw_any b ra 32 wr (by omega) HR.out.1)
      generalize (rRaw ra 32).1 = x1 at HC1 HT1
      generalize (rRaw ra 32).2 = rb at HC1 HT1 HT2 hz2
      go_wp2_with fail
      refine HC1.out.mono ?_
      rintro e w2 ⟨rfl, h2⟩
      have HC2 := Lib.hid (qtxt_any b rb 1024 w2 (by decide) (by omega) h2.1)
      have HO2 := Lib.hid (HO.out.rd HBW.out h2)
      have HR2 := Lib.hid (HR.out.trans h2)
      clear h2 HO HR HC1
      generalize (rTxt rb 1024).1 = x2 at HC2 HT1
      generalize (rTxt rb 1024).2 = rc at HC2 HT2
      go_wp2_with fail
      refine HC2.out.mono ?_
      rintro e w3 ⟨rfl, h3⟩
      have HO3 := Lib.hid (HO2.out.rd HBW.out h3)
      have HR3 := Lib.hid (HR2.out.trans h3)
      clear h3 HO2 HR2 HC2
      obtain ⟨i0, hi, hz0, hz1', hz2'⟩ := info_parts infoSig
      have HI2 := Lib.hid hz2'
      clear hz2'
      go_wp2_with (first | (at_builtin; refine wpList_appL _ rfl _ _ 41 rfl i0 (.agg #[.string ⟨#[]⟩, .string ⟨#[]⟩]) 32 Tryz.underlying41 hi hz0 hz1' HI2.out rfl (by decide) w.heap.size (.slice ao L.length cap) L rfl (OwnL.alloc HO3.out _) (x1, x2) rfl ⟨w3.heap.size, 0, none⟩ 1 rfl (one_sig w3 (x1, x2) _) ?_ ?_ (by decide) ?_ ?_) | fail)
      · exact ⟨rfl, rfl⟩
      · have := hln.out; omega
      · rw [size_alloc]; have := HR3.out.2.size; omega
      intro v5 w5 ho5 hg5 hown5
      have hown := OwnL.lt HO3.out
      have hk5 : Kp (fun k => (Value.slice ao L.length cap).ownBlock = some k) w3 w5 := ((Kp.refl (fun k => (Value.slice ao L.length cap).ownBlock = some k) w3).alloc _).grown hg5 (fun k h => .inl h)
      have hr5 : RdP 141 b rc w w5 := ⟨blk_kp HR3.out.1 hk5 (fun h => by have := (hown _ h).1; have := HBW.out; omega), HR3.out.2.trans' hk5 (fun i hi => .inr (hown _ hi).1)⟩
      have HR5 := Lib.hid hr5
      have HO5 := Lib.hid ho5
      clear hk5 hr5 hown ho5 hg5 hown5 HO3 HR3
      go_wp2_with fail
      refine ⟨⟨k + 1, hlt, rfl, ?_, ?_⟩, ?_⟩
      · rw [HT1.out]; exact HO5.out
      · rw [HT2.out]; exact HR5.out
      · show n - ((k : Int) + 1).toNat < n - (k : Int).toNat
        omega
    · obtain rfl : k = n := by omega
      have hO := HO.out
      have hR := HR.out
      rw [← HQ.out] at hO hR
      obtain ⟨ao, cap, rfl, -, -, -⟩ := OwnL.form hO
      obtain ⟨⟨-, c1⟩, -, -⟩ := hR.1.cells
      have HO2 := Lib.hid hO
      have HR2 := Lib.hid hR
      clear hO hR HO HR hln hsz
      by_cases he : qn.2.2 = 0
      · have hb : (qn.2.2 == 0) = true := beq_iff_eq.2 he
        have hb2 : (qn.2.2 != 0) = false := by rw [bne, hb]; rfl
        have HE := Lib.hid he
        clear he
        go_wp2_with fail
        go_ret
        exact ⟨_, rfl, HO2.out, HR2.out⟩
      · have hb : (qn.2.2 == 0) = false := beq_eq_false_iff_ne.2 he
        have hb2 : (qn.2.2 != 0) = true := by rw [bne, hb]; rfl
        have HE := Lib.hid he
        clear he
        go_wp2_with fail
        go_ret
        exact ⟨_, rfl, ownL_nil _ _, HR2.out⟩
end Go.Proofs.YtmejjphliaiamaaGreatDoor
