import Derived.Test.YtmejjphliaiamaaGreatDoorQuF
import Derived.Test.YtmejjphliaiamaaGreatDoorPkR
set_option linter.unusedVariables false
set_option linter.unusedSimpArgs false
namespace Go.Proofs.YtmejjphliaiamaaGreatDoor
open Go Go.RowKit Go.Lib

/-! ### the reference seals -/
theorem WG.setBad {T : TypeId} {B : Nat} {w0 w : World} {b : Nat} {Lp : List (Nat × Array Value × TypeId)} {s : ByteArray} {x : Bool} (H : WG T B w0 w b Lp (s, x)) (hT : T ≠ 5) (y : Bool) : WG T B w0 (w.setCell ⟨b, 1, none⟩ (.bool y)) b Lp (s, y) := by
  obtain ⟨v, hv⟩ := H.ex
  obtain ⟨h1, h2⟩ := wr_bad hv hT y
  exact H.step hv ⟨v, h1, NewV.refl _ _, h2⟩
def rsealP (body : ByteArray) (L : List SigT) : ByteArray × Int := if 16 < L.length then (⟨#[]⟩, 1) else wOut ((rlayP (rText (⟨#[]⟩, false) body) L).1, (rlayP (rText (⟨#[]⟩, false) body) L).2 || L.any longS)
def RsRel (w0 : World) (b : Nat) (q : WS) (L : List SigT) (i : Value) (wr : World) : Prop := ∃ k : Nat, k ≤ L.length ∧ i = .int .i64 k ∧ WG 101 w0.heap.size w0 wr b [] (q.1, q.2 || (L.take k).any longS)

set_option maxRecDepth 100000 in
set_option maxHeartbeats 4000000 in
theorem rseal_any (body : ByteArray) (ad : Option Addr) (L : List SigT) (c : Nat) (w : World) (hL : SigsM w ad L) (hb : body.size ≤ 1000000000) (hn : L.length ≤ 1000000) (hx : ∀ x ∈ L, x.1.size ≤ 1000000000 ∧ x.2.size ≤ 1000000000) :
    Calls Tryz.prog 14 #[.string body, .slice ad L.length c] w fun e w' => e = .returned (.tuple #[.string (rsealP body L).1, .int .i64 (rsealP body L).2]) ∧ Below w.heap.size w w' := by
  unfold rsealP
  have HL := Lib.hid hL
  have HX := Lib.hid hx
  clear hL hx
  by_cases h2 : 16 < L.length
  · have h2' : (16 : Int) < (L.length : Int) := by omega
    rw [if_pos h2]
    go_enter Tryz.func14, Tryz.ntmps14
    go_wp2_with fail
    go_ret2
    exact ⟨rfl, Below.refl _ _⟩
  have h2' : ¬ (16 : Int) < (L.length : Int) := by omega
  rw [if_neg h2]
  have hq : (rText (⟨#[]⟩, false) body).1.size ≤ 65540 := by
    have := rText_size (⟨#[]⟩, false) body
    have e : ((⟨#[]⟩ : ByteArray), false).1.size = 0 := rfl
    omega
  have g0 := wg_new 101 (L := []) (Below.refl w.heap.size w) (Nat.le_refl _) (fun x hx => by cases hx)
  generalize hq0 : rText (⟨#[]⟩, false) body = q0 at hq
  have HQ0 := Lib.hid hq0
  generalize hq3 : rlayP q0 L = q3
  have HQ3 := Lib.hid hq3.symm
  clear hq0 hq3 h2
  obtain ⟨R, hR⟩ : ∃ R, R = wOut (q3.1, q3.2 || L.any longS) := ⟨_, rfl⟩
  rw [← hR]
  have HR := Lib.hid hR
  clear hR
  go_enter Tryz.func14, Tryz.ntmps14
  go_wp2_with fail
  generalize w.alloc (.cells #[.slice none 0 0, .bool false] 101) = w2 at g0 ⊢
  obtain ⟨wb, hwb⟩ : ∃ wb, wb = w.heap.size := ⟨_, rfl⟩
  have hg0 : WG 101 w.heap.size w w2 wb [] (⟨#[]⟩, false) := hwb ▸ g0
  rw [← hwb]
  have G1 := Lib.hid hg0
  obtain ⟨v1, hv⟩ := hg0.ex
  have HV := Lib.hid hv
  clear g0 hg0 hv hwb
  refine (rwtext_any _ wb v1 _ body w2 (by show 0 ≤ _; omega) (by omega) HV.out).mono ?_
  rintro e w3 ⟨rfl, hk⟩
  have hg2 := G1.out.step HV.out hk
  rw [HQ0.out] at hg2
  have G2 := Lib.hid hg2
  clear hg2 hk G1 HV HQ0
  go_wp2_with fail
  refine (rlaysigs_any w wb [] q0 ad L c w3 HL.out (by omega) (by omega) HX.out G2.out).mono ?_
  rintro e w4 ⟨rfl, hg3⟩
  rw [← HQ3.out] at hg3
  have G3 : Hid (WG 101 w.heap.size w w4 wb [] (q3.1, q3.2 || ([] : List SigT).any longS)) := Lib.hid (by rw [List.any_nil, Bool.or_false]; exact hg3)
  clear hg3 G2 HQ3
  go_wp2_with fail
  go_loopw [7] (fun i wr => RsRel w wb q3 L i wr) (fun i _ => L.length - (intOf i).toNat)
  case atStart => exact ⟨0, Nat.zero_le _, rfl, G3.out⟩
  case round =>
    clear G3
    obtain ⟨k, hk, rfl, hG⟩ := hrel
    have HG := Lib.hid hG
    obtain ⟨v2, hv2⟩ := hG.ex
    have HV2 := Lib.hid hv2
    have b1 : wr.cell? ⟨wb, 1, none⟩ = some (.bool (q3.2 || (L.take k).any longS)) := cell_of_blk hv2.blk 1 rfl
    have f1 := free_of_blk hv2.blk 1
    clear hG hv2
    by_cases hlt : k < L.length
    · have hk1 : (k : Int) < (L.length : Int) := by omega
      have hk0 : (0 : Int) ≤ (k : Int) := Int.natCast_nonneg _
      have hxx := HX.out L[k] (List.getElem_mem hlt)
      have htk : (q3.2 || (L.take (k + 1)).any longS) = ((q3.2 || (L.take k).any longS) || longS L[k]) := by
        rw [List.take_succ_eq_append_getElem hlt, List.any_append, List.any_cons, List.any_nil, Bool.or_false, Bool.or_assoc]
      obtain ⟨pb, po, rfl, s0, s1⟩ := (HL.out.below HG.out.below) k L[k] (List.getElem?_eq_getElem hlt)
      have HTk := Lib.hid htk
      clear htk s0
      generalize L[k] = x at s1 HTk hxx
      generalize (q3.2 || (L.take k).any longS) = cb at HG HV2 b1 HTk
      cases cb with
      | true =>
        go_wp2_with fail
        refine ⟨⟨k + 1, hlt, rfl, ?_⟩, ?_⟩
        · rw [HTk.out]
          exact HG.out.setBad (by decide) _
        · show L.length - ((k : Int) + 1).toNat < L.length - (k : Int).toNat
          omega
      | false =>
        by_cases h1024 : (1024 : Int) < (x.2.size : Int)
        · have hl : longS x = true := decide_eq_true (by omega)
          rw [hl] at HTk
          clear hl
          go_wp2_with fail
          refine ⟨⟨k + 1, hlt, rfl, ?_⟩, ?_⟩
          · rw [HTk.out]
            exact HG.out.setBad (by decide) _
          · show L.length - ((k : Int) + 1).toNat < L.length - (k : Int).toNat
            omega
        · have hl : longS x = false := decide_eq_false (by omega)
          rw [hl] at HTk
          clear hl
          go_wp2_with fail
          refine ⟨⟨k + 1, hlt, rfl, ?_⟩, ?_⟩
          · rw [HTk.out]
            exact HG.out.setBad (by decide) _
          · show L.length - ((k : Int) + 1).toNat < L.length - (k : Int).toNat
            omega
    · obtain rfl : k = L.length := by omega
      have hfin : L.take L.length = L := List.take_length
      rw [hfin, ← hfin] at HG
      rw [hfin] at HV2 HG
      clear b1 f1
      go_wp2_with fail
      refine (rbytes_any _ wb v2 _ wr HV2.out).mono ?_
      rintro e w5 ⟨rfl, rfl⟩
      rw [← HR.out]
      go_wp2_with fail
      go_ret2
      exact ⟨rfl, HG.out.below⟩
end Go.Proofs.YtmejjphliaiamaaGreatDoor
