import Derived.Test.YtmejjphliaiamaaGreatDoorQuA
import Derived.Test.YtmejjphliaiamaaGreatDoorSg
set_option linter.unusedVariables false
set_option linter.unusedSimpArgs false
namespace Go.Proofs.YtmejjphliaiamaaGreatDoor
open Go Go.RowKit Go.Lib

/-! ### signatures laid -/
theorem WG.push {T : TypeId} {B : Nat} {w0 w : World} {b : Nat} {L : List (Nat × Array Value × TypeId)} {q : WS} (H : WG T B w0 w b L q) (cs : Array Value) (t : TypeId) (ht : t ≠ 5) (hB : B ≤ w.heap.size) : WG T B w0 (w.alloc (.cells cs t)) b ((w.heap.size, cs, t) :: L) q := by
  obtain ⟨v, hv⟩ := H.ex
  have hl := H.later ((Below.refl _ w).alloc (Nat.le_refl _) (.cells cs t))
  refine ⟨hl.ex, fun x hx => ?_, hl.below, hl.hb⟩
  rcases List.mem_cons.1 hx with rfl | hx
  · exact ⟨blk_new _ _, ht, fun e => by have := hv.lt; dsimp only at e; omega⟩
  · exact hl.par x hx
theorem WG.pop {T : TypeId} {B : Nat} {w0 w : World} {b : Nat} {x : Nat × Array Value × TypeId} {L : List (Nat × Array Value × TypeId)} {q : WS} (H : WG T B w0 w b (x :: L) q) : WG T B w0 w b L q := ⟨H.ex, fun y hy => H.par y (by simp [hy]), H.below, H.hb⟩
def layP (q : WS) (x : SigT) : WS := pText (pHash q x.1) x.2
def laySigsP (q : WS) (L : List SigT) : WS := L.foldl layP (wNum q L.length 1)
theorem layP_size (q : WS) (x : SigT) : (layP q x).1.size ≤ q.1.size + x.1.size + x.2.size + 2 := by
  unfold layP pText
  show ((wNum (pHash q x.1) x.2.size 2).1 ++ x.2).size ≤ _
  rw [ByteArray.size_append]
  have h := wNum_size (pHash q x.1) x.2.size 2
  have h2 : (pHash q x.1).1.size = q.1.size + x.1.size := by unfold pHash; exact ByteArray.size_append
  omega
def sigsZ : List SigT → Nat
  | [] => 0
  | x :: r => x.1.size + x.2.size + 2 + sigsZ r
theorem foldP_size : ∀ (L : List SigT) (q : WS), (L.foldl layP q).1.size ≤ q.1.size + sigsZ L
  | [], q => Nat.le_refl _
  | x :: r, q => by
    have h1 := foldP_size r (layP q x)
    have h2 := layP_size q x
    show (r.foldl layP (layP q x)).1.size ≤ q.1.size + (x.1.size + x.2.size + 2 + sigsZ r)
    omega
theorem sigsZ_take : ∀ (L : List SigT) (k : Nat), sigsZ (L.take k) ≤ sigsZ L
  | [], k => by simp [sigsZ]
  | x :: r, 0 => by simp [sigsZ]
  | x :: r, k + 1 => by
    have := sigsZ_take r k
    rw [List.take_succ_cons, sigsZ, sigsZ]
    omega
theorem sigsZ_get : ∀ (L : List SigT) (k : Nat) (h : k < L.length), sigsZ (L.take k) + (L[k].1.size + L[k].2.size + 2) ≤ sigsZ L
  | x :: r, 0, h => by simp [sigsZ]
  | x :: r, k + 1, h => by
    have := sigsZ_get r k (by simpa using h)
    rw [List.take_succ_cons, sigsZ, sigsZ, List.getElem_cons_succ]
    omega
def LsRel (w0 : World) (b : Nat) (Lp : List (Nat × Array Value × TypeId)) (q : WS) (L : List SigT) (i : Value) (wr : World) : Prop := ∃ k : Nat, k ≤ L.length ∧ i = .int .i64 k ∧ WG 75 w0.heap.size w0 wr b Lp ((L.take k).foldl layP q)

set_option maxRecDepth 100000 in
set_option maxHeartbeats 2000000 in
theorem laysigs_any (w0 : World) (b : Nat) (Lp : List (Nat × Array Value × TypeId)) (q : WS) (ad : Option Addr) (L : List SigT) (c : Nat) (w : World) (hL : SigsM w0 ad L) (hn : L.length ≤ 1000000) (hz : q.1.size + sigsZ L ≤ 70368744000000)
    (hG : WG 75 w0.heap.size w0 w b Lp q) :
    Calls Tryz.prog 50 #[.pointer (some ⟨b, 0, none⟩), .slice ad L.length c] w fun e w' => e = .returned (.tuple #[]) ∧ WG 75 w0.heap.size w0 w' b Lp (laySigsP q L) := by
  have HL := Lib.hid hL
  have HG := Lib.hid hG
  obtain ⟨v, hv⟩ := hG.ex
  have HV := Lib.hid hv
  have hq1 := wNum_size q L.length 1
  clear hL hG hv
  have e0 : laySigsP q L = L.foldl layP (wNum q L.length 1) := rfl
  rw [e0]
  clear e0
  go_enter Tryz.func50, Tryz.ntmps50
  go_wp2_with fail
  refine (pw1_any _ b v q L.length w (by omega) (by omega) HV.out).mono ?_
  rintro e w1 ⟨rfl, hk⟩
  have HG1 := Lib.hid (HG.out.step HV.out hk)
  clear hk HV HG
  generalize hE : wNum q L.length 1 = q1 at hq1 HG1
  have HE := Lib.hid hE
  clear hE
  go_wp2_with fail
  go_loopw [12] (fun i wr => LsRel w0 b Lp q1 L i wr) (fun i _ => L.length - (intOf i).toNat)
  case atStart => exact ⟨0, Nat.zero_le _, rfl, HG1.out⟩
  case round =>
    clear HG1
    obtain ⟨k, hk, rfl, hG⟩ := hrel
    have HG := Lib.hid hG
    clear hG
    by_cases hlt : k < L.length
    · obtain ⟨pb, po, rfl, s0, s1⟩ := (HL.out.below HG.out.below) k L[k] (List.getElem?_eq_getElem hlt)
      have hzg := sigsZ_get L k hlt
      have hfs := foldP_size (L.take k) q1
      have htk : (L.take (k + 1)).foldl layP q1 = layP ((L.take k).foldl layP q1) L[k] := by rw [List.take_succ_eq_append_getElem hlt, List.foldl_append]; rfl
      have HTk := Lib.hid htk
      generalize L[k] = x at s0 s1 hzg HTk
      generalize (L.take k).foldl layP q1 = cur at HG HTk hfs
      have hk0 : (0 : Int) ≤ (k : Int) := Int.natCast_nonneg _
      have hk1 : (k : Int) < (L.length : Int) := by omega
      have hcz : cur.1.size + x.1.size + x.2.size ≤ 70368744010000 := by omega
      clear htk hfs hzg
      go_wp2_with fail
      clear s0 s1
      have hG2 := HG.out.push #[.string x.1, .string x.2] 54 (by decide) HG.out.below.size
      have hxs : wr.heap.size < (wr.alloc (.cells #[.string x.1, .string x.2] 54)).heap.size := by rw [size_alloc]; omega
      generalize wr.alloc (.cells #[.string x.1, .string x.2] 54) = w2 at hG2 hxs ⊢
      generalize wr.heap.size = xb at hG2 hxs ⊢
      have HG2 := Lib.hid hG2
      obtain ⟨v2, hv2⟩ := hG2.ex
      have HV2 := Lib.hid hv2
      have hp2 := (hG2.par _ (List.mem_cons_self)).1
      have x0 := cell_of_blk hp2 0 (v := .string x.1) rfl
      have x1 := cell_of_blk hp2 1 (v := .string x.2) rfl
      clear hG2 hv2 hp2 HG
      go_wp2_with fail
      refine (phash_any _ b v2 cur x.1 w2 (by omega) HV2.out).mono ?_
      rintro e w3 ⟨rfl, hk3⟩
      have hs3 : (pHash cur x.1).1.size = cur.1.size + x.1.size := by unfold pHash; exact ByteArray.size_append
      have hG3 := HG2.out.step HV2.out hk3
      have HG3 := Lib.hid hG3
      obtain ⟨v3, hv3⟩ := hG3.ex
      have HV3 := Lib.hid hv3
      have x1' := cell_of_blk ((hG3.par _ (List.mem_cons_self)).1) 1 (v := .string x.2) rfl
      clear hG3 hv3 hk3 HG2 HV2 x0 x1
      have hlay : layP cur x = pText (pHash cur x.1) x.2 := rfl
      have HLy := Lib.hid hlay
      clear hlay
      generalize pHash cur x.1 = cur3 at hs3 HG3 HV3 HLy
      go_wp2_with fail
      refine (ptext_any _ b v3 cur3 x.2 w3 (by omega) HV3.out).mono ?_
      rintro e w4 ⟨rfl, hk4⟩
      have HG4 := Lib.hid (HG3.out.step HV3.out hk4)
      clear hk4 HG3 HV3 x1'
      go_wp2_with fail
      refine ⟨⟨k + 1, hlt, rfl, ?_⟩, ?_⟩
      · rw [HTk.out, HLy.out]
        exact HG4.out.pop
      · show L.length - ((k : Int) + 1).toNat < L.length - (k : Int).toNat
        omega
    · obtain rfl : k = L.length := by omega
      have hfin : L.take L.length = L := List.take_length
      rw [hfin] at HG
      go_wp2_with fail
      go_end0
      exact ⟨rfl, HE.out ▸ HG.out⟩
end Go.Proofs.YtmejjphliaiamaaGreatDoor
