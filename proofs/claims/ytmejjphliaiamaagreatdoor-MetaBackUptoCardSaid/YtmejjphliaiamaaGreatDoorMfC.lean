import Derived.Test.YtmejjphliaiamaaGreatDoorMeZ
set_option linter.unusedVariables false
set_option linter.unusedSimpArgs false
namespace Go.Proofs.YtmejjphliaiamaaGreatDoor
open Go Go.RowKit Go.Lib Go.Sort

/-! ### a root's document, zeroed -/
theorem DocK.set {b : Nat} {d d' : DV} {w0 w : World} (h : DocK b d w0 w) (i : Nat) (v : Value) (hd : (docC d).setIfInBounds i v = docC d') : DocK b d' w0 (w.setCell ⟨b, i, none⟩ v) := by
  refine ⟨?_, h.2.setCell (p := ⟨b, i, none⟩) (.inl rfl) _⟩
  unfold DocAt
  rw [← hd]
  exact blk_set h.1 v
def d1Z (d : DV) : DV := { d with s0 := sz, s1 := sz, s2 := sz, s3 := sz, s4 := sz, log := ⟨#[]⟩, org := ⟨#[]⟩ }
set_option maxRecDepth 100000 in
set_option maxHeartbeats 4000000 in
theorem zero1_any (b : Nat) (d : DV) (w : World) (h : DocAt w b d) : Calls Tryz.prog 95 #[.pointer (some ⟨b, 0, none⟩)] w fun e w' => e = .returned (.tuple #[]) ∧ DocK b (d1Z d) w w' := by
  obtain ⟨kd, ve, ex, ⟨a0, n0, c0, m0⟩, ⟨a1, n1, c1, m1⟩, ⟨a2, n2, c2, m2⟩, ⟨a3, n3, c3, m3⟩, ⟨a4, n4, c4, m4⟩, lg, og, la, ln, lc, po, ps, pr, of, hs⟩ := d
  have x3 := cell_of_blk h 3 (v := .slice a0 n0 c0) rfl
  have x4 := cell_of_blk h 4 (v := .int .i64 m0) rfl
  have x5 := cell_of_blk h 5 (v := .slice a1 n1 c1) rfl
  have x6 := cell_of_blk h 6 (v := .int .i64 m1) rfl
  have x7 := cell_of_blk h 7 (v := .slice a2 n2 c2) rfl
  have x8 := cell_of_blk h 8 (v := .int .i64 m2) rfl
  have x9 := cell_of_blk h 9 (v := .slice a3 n3 c3) rfl
  have x10 := cell_of_blk h 10 (v := .int .i64 m3) rfl
  have x11 := cell_of_blk h 11 (v := .slice a4 n4 c4) rfl
  have x12 := cell_of_blk h 12 (v := .int .i64 m4) rfl
  have x13 := cell_of_blk h 13 (v := .string lg) rfl
  have x14 := cell_of_blk h 14 (v := .string og) rfl
  have f3 := free_of_blk h 3
  have f4 := free_of_blk h 4
  have f5 := free_of_blk h 5
  have f6 := free_of_blk h 6
  have f7 := free_of_blk h 7
  have f8 := free_of_blk h 8
  have f9 := free_of_blk h 9
  have f10 := free_of_blk h 10
  have f11 := free_of_blk h 11
  have f12 := free_of_blk h 12
  have f13 := free_of_blk h 13
  have f14 := free_of_blk h 14
  have k0 : DocK b ⟨kd, ve, ex, ⟨a0, n0, c0, m0⟩, ⟨a1, n1, c1, m1⟩, ⟨a2, n2, c2, m2⟩, ⟨a3, n3, c3, m3⟩, ⟨a4, n4, c4, m4⟩, lg, og, la, ln, lc, po, ps, pr, of, hs⟩ w w := ⟨h, Kp.refl _ _⟩
  have k1 := k0.set 3 (.slice none 0 0) (d' := ⟨kd, ve, ex, ⟨none, 0, 0, m0⟩, ⟨a1, n1, c1, m1⟩, ⟨a2, n2, c2, m2⟩, ⟨a3, n3, c3, m3⟩, ⟨a4, n4, c4, m4⟩, lg, og, la, ln, lc, po, ps, pr, of, hs⟩) rfl
  have k2 := k1.set 4 (.int .i64 0) (d' := ⟨kd, ve, ex, ⟨none, 0, 0, 0⟩, ⟨a1, n1, c1, m1⟩, ⟨a2, n2, c2, m2⟩, ⟨a3, n3, c3, m3⟩, ⟨a4, n4, c4, m4⟩, lg, og, la, ln, lc, po, ps, pr, of, hs⟩) rfl
  have k3 := k2.set 5 (.slice none 0 0) (d' := ⟨kd, ve, ex, ⟨none, 0, 0, 0⟩, ⟨none, 0, 0, m1⟩, ⟨a2, n2, c2, m2⟩, ⟨a3, n3, c3, m3⟩, ⟨a4, n4, c4, m4⟩, lg, og, la, ln, lc, po, ps, pr, of, hs⟩) rfl
  have k4 := k3.set 6 (.int .i64 0) (d' := ⟨kd, ve, ex, ⟨none, 0, 0, 0⟩, ⟨none, 0, 0, 0⟩, ⟨a2, n2, c2, m2⟩, ⟨a3, n3, c3, m3⟩, ⟨a4, n4, c4, m4⟩, lg, og, la, ln, lc, po, ps, pr, of, hs⟩) rfl
  have k5 := k4.set 7 (.slice none 0 0) (d' := ⟨kd, ve, ex, ⟨none, 0, 0, 0⟩, ⟨none, 0, 0, 0⟩, ⟨none, 0, 0, m2⟩, ⟨a3, n3, c3, m3⟩, ⟨a4, n4, c4, m4⟩, lg, og, la, ln, lc, po, ps, pr, of, hs⟩) rfl
  have k6 := k5.set 8 (.int .i64 0) (d' := ⟨kd, ve, ex, ⟨none, 0, 0, 0⟩, ⟨none, 0, 0, 0⟩, ⟨none, 0, 0, 0⟩, ⟨a3, n3, c3, m3⟩, ⟨a4, n4, c4, m4⟩, lg, og, la, ln, lc, po, ps, pr, of, hs⟩) rfl
  have k7 := k6.set 9 (.slice none 0 0) (d' := ⟨kd, ve, ex, ⟨none, 0, 0, 0⟩, ⟨none, 0, 0, 0⟩, ⟨none, 0, 0, 0⟩, ⟨none, 0, 0, m3⟩, ⟨a4, n4, c4, m4⟩, lg, og, la, ln, lc, po, ps, pr, of, hs⟩) rfl
  have k8 := k7.set 10 (.int .i64 0) (d' := ⟨kd, ve, ex, ⟨none, 0, 0, 0⟩, ⟨none, 0, 0, 0⟩, ⟨none, 0, 0, 0⟩, ⟨none, 0, 0, 0⟩, ⟨a4, n4, c4, m4⟩, lg, og, la, ln, lc, po, ps, pr, of, hs⟩) rfl
  have k9 := k8.set 11 (.slice none 0 0) (d' := ⟨kd, ve, ex, ⟨none, 0, 0, 0⟩, ⟨none, 0, 0, 0⟩, ⟨none, 0, 0, 0⟩, ⟨none, 0, 0, 0⟩, ⟨none, 0, 0, m4⟩, lg, og, la, ln, lc, po, ps, pr, of, hs⟩) rfl
  have k10 := k9.set 12 (.int .i64 0) (d' := ⟨kd, ve, ex, ⟨none, 0, 0, 0⟩, ⟨none, 0, 0, 0⟩, ⟨none, 0, 0, 0⟩, ⟨none, 0, 0, 0⟩, ⟨none, 0, 0, 0⟩, lg, og, la, ln, lc, po, ps, pr, of, hs⟩) rfl
  have k11 := k10.set 13 (.string ⟨#[]⟩) (d' := ⟨kd, ve, ex, ⟨none, 0, 0, 0⟩, ⟨none, 0, 0, 0⟩, ⟨none, 0, 0, 0⟩, ⟨none, 0, 0, 0⟩, ⟨none, 0, 0, 0⟩, ⟨#[]⟩, og, la, ln, lc, po, ps, pr, of, hs⟩) rfl
  have k12 := k11.set 14 (.string ⟨#[]⟩) (d' := ⟨kd, ve, ex, ⟨none, 0, 0, 0⟩, ⟨none, 0, 0, 0⟩, ⟨none, 0, 0, 0⟩, ⟨none, 0, 0, 0⟩, ⟨none, 0, 0, 0⟩, ⟨#[]⟩, ⟨#[]⟩, la, ln, lc, po, ps, pr, of, hs⟩) rfl
  have HK := Lib.hid k12
  clear k0 k1 k2 k3 k4 k5 k6 k7 k8 k9 k10 k11 k12 h
  go_enter Tryz.func95, Tryz.ntmps95
  go_wp2_with fail
  go_end0
  exact ⟨rfl, HK.out⟩

/-! ### a root's document, laid -/
theorem WG.add {T : TypeId} {B : Nat} {w0 w : World} {b : Nat} {L : List (Nat × Array Value × TypeId)} {q : WS} (H : WG T B w0 w b L q) (x : Nat × Array Value × TypeId) (h1 : w.heap[x.1]? = some (.cells x.2.1 x.2.2 (0, 0))) (h2 : x.2.2 ≠ 5) (h3 : x.1 ≠ b) : WG T B w0 w b (x :: L) q := by
  refine ⟨H.ex, fun y hy => ?_, H.below, H.hb⟩
  rcases List.mem_cons.1 hy with rfl | hy
  · exact ⟨h1, h2, h3⟩
  · exact H.par y hy
theorem laySetP_size (S : SetT) (q : WS) : (laySetP S q).1.size ≤ q.1.size + txZ S.1 + 2 := by
  unfold laySetP
  split
  · have h1 := wNum_size (S.1.foldl pHash (wNum q S.1.length 1)) S.2 1
    have h2 := foldH_size S.1 (wNum q S.1.length 1)
    have h3 := wNum_size q S.1.length 1
    omega
  · have h1 := wNum_size q (-1) 1
    omega
def layF (q : WS) (S : SetT) : WS := laySetP S q
def lay1 (d : DV) (SL : List SetT) (q : WS) : WS := pText (pHash (SL.foldl layF q) d.log) d.org
theorem foldS_size : ∀ (L : List SetT) (q : WS), (∀ S ∈ L, txZ S.1 ≤ 100000000) → (L.foldl layF q).1.size ≤ q.1.size + 100000002 * L.length
  | [], q, h => Nat.le_refl _
  | x :: r, q, h => by
    have h1 := foldS_size r (layF q x) (fun S hS => h S (List.mem_cons_of_mem _ hS))
    have h2 : (layF q x).1.size ≤ _ := laySetP_size x q
    have h3 := h x List.mem_cons_self
    rw [List.length_cons]
    show (r.foldl layF (layF q x)).1.size ≤ _
    omega
def LrtRel (w0 : World) (wb : Nat) (Lp : List (Nat × Array Value × TypeId)) (q : WS) (SL : List SetT) (i : Value) (wr : World) : Prop := ∃ k : Nat, k ≤ 5 ∧ i = .int .i64 k ∧ WG 75 w0.heap.size w0 wr wb Lp ((SL.take k).foldl layF q)

set_option maxRecDepth 100000 in
set_option maxHeartbeats 4000000 in
theorem layrt_any (d : DV) (SL : List SetT) (w0 : World) (hS : SetsM w0 d SL) (hz : ∀ S ∈ SL, S.1.length ≤ 100000000 ∧ txZ S.1 ≤ 100000000 ∧ I64 S.2) (hl : d.log.size ≤ 1000000000) (ho : d.org.size ≤ 1000000000) : LayC 93 d (lay1 d SL) w0 := by
  intro W wb q db Lp hm hq hG
  have hd : DocAt W db d := (hG.par _ hm).1
  have hlt : db < W.heap.size := (Array.getElem?_eq_some_iff.1 hd).1
  obtain ⟨v0, hv0⟩ := hG.ex
  have hwb : wb < W.heap.size := hv0.lt
  have HS := Lib.hid hS
  have HZ := Lib.hid hz
  have HM := Lib.hid hm
  have HG := Lib.hid hG
  have e0 : lay1 d SL q = pText (pHash (SL.foldl layF q) d.log) d.org := rfl
  rw [e0]
  obtain ⟨R, hRR⟩ : ∃ R, R = pText (pHash (SL.foldl layF q) d.log) d.org := ⟨_, rfl⟩
  rw [← hRR]
  have HRR := Lib.hid hRR
  clear hG hv0 hd hS hz hm e0 hRR
  go_enter Tryz.func93, Tryz.ntmps93
  go_wp2_with fail
  refine (sets_any db W hlt).mono ?_
  rintro e w1 ⟨qb, rfl, hqb, hqa, hb1⟩
  have hg1 := (HG.out.later hb1).add (qb, setPs db, 134) hqa (show (134 : TypeId) ≠ 5 by decide) (by show qb ≠ wb; omega)
  have HG1 := Lib.hid hg1
  clear hqa hb1 hg1 HG hlt hqb hwb
  go_wp2_with fail
  go_loopw [9] (fun i wr => LrtRel w0 wb ((qb, setPs db, 134) :: Lp) q SL i wr) (fun i _ => 5 - (intOf i).toNat)
  case atStart => exact ⟨0, Nat.zero_le _, rfl, HG1.out⟩
  case round =>
    clear HG1
    obtain ⟨k, hk, rfl, hG⟩ := hrel
    have HG := Lib.hid hG
    obtain ⟨v4, hv4⟩ := hG.ex
    have HV4 := Lib.hid hv4
    have hdr : DocAt wr db d := (hG.par _ (List.mem_cons_of_mem _ HM.out)).1
    have hqr := (hG.par _ List.mem_cons_self).1
    have HDr := Lib.hid hdr
    by_cases hlt : k < 5
    case pos =>
      have hl5 : k < SL.length := by rw [HS.out.1]; exact hlt
      obtain ⟨s, hs, c1, c2⟩ := setL_at d db wr hdr k hlt
      have c0 := setPs_at db qb wr hqr k hlt
      obtain ⟨hsm, hsl⟩ := HS.out.2 k s SL[k] hs (List.getElem?_eq_getElem hl5)
      obtain ⟨z1, z2, z3⟩ := HZ.out SL[k] (List.getElem_mem hl5)
      have htk : (SL.take (k + 1)).foldl layF q = laySetP SL[k] ((SL.take k).foldl layF q) := by rw [List.take_succ_eq_append_getElem hl5, List.foldl_append]; rfl
      have hfs := foldS_size (SL.take k) q (fun S hS => (HZ.out S (List.mem_of_mem_take hS)).2.1)
      have htl : (SL.take k).length ≤ 5 := by rw [List.length_take]; omega
      generalize SL[k] = S at hsm hsl z1 z2 z3 htk
      generalize (SL.take k).foldl layF q = cur at HG HV4 htk hfs hG hv4
      have HTk := Lib.hid htk
      have HC := Lib.hid (qlay_any w0 wb ((qb, setPs db, 134) :: Lp) cur s S wr hsm (by omega) (by omega) (by omega) z3 hG)
      have hk0 : (0 : Int) ≤ (k : Int) := Int.natCast_nonneg _
      have hk1 : (k : Int) < 5 := by omega
      clear hG hv4 hdr hqr hs hsm hsl z1 z2 z3 htk hfs htl
      go_wp2_with fail
      refine HC.out.mono ?_
      rintro e w5 ⟨rfl, hg5⟩
      have HG5 := Lib.hid hg5
      clear hg5
      go_wp2_with fail
      have hG5 := HG5.out
      rw [← HTk.out] at hG5
      refine ⟨⟨k + 1, hlt, rfl, hG5⟩, ?_⟩
      show 5 - ((k : Int) + 1).toNat < 5 - (k : Int).toNat
      omega
    case neg =>
      obtain rfl : k = 5 := by omega
      have hfin : SL.take 5 = SL := List.take_of_length_le (by rw [HS.out.1]; exact Nat.le_refl _)
      have hfs := foldS_size SL q (fun S hS => (HZ.out S hS).2.1)
      have h5 := HS.out.1
      rw [h5] at hfs
      clear h5
      rw [hfin] at HG HV4
      clear hG hv4 hqr hfin
      generalize SL.foldl layF q = cur at HG HV4 hfs HRR
      have c13 := cell_of_blk hdr 13 (v := .string d.log) rfl
      clear hdr
      go_wp2_with fail
      refine (phash_any _ wb v4 cur d.log wr (by omega) HV4.out).mono ?_
      rintro e w5 ⟨rfl, hk5⟩
      have hsz : (pHash cur d.log).1.size = cur.1.size + d.log.size := pHash_size _ _
      have hg5 := HG.out.step HV4.out hk5
      have HG5 := Lib.hid hg5
      obtain ⟨v5, hv5⟩ := hg5.ex
      have HV5 := Lib.hid hv5
      have hd5 : DocAt w5 db d := (hg5.par _ (List.mem_cons_of_mem _ HM.out)).1
      have c14 := cell_of_blk hd5 14 (v := .string d.org) rfl
      clear hk5 hg5 hv5 hd5 c13 HG HV4
      generalize pHash cur d.log = q2 at hsz HG5 HV5 HRR
      go_wp2_with fail
      refine (ptext_any _ wb v5 q2 d.org w5 (by omega) HV5.out).mono ?_
      rintro e w6 ⟨rfl, hk6⟩
      have HG6 := Lib.hid (HG5.out.step HV5.out hk6).pop
      clear hk6
      go_wp2_with fail
      go_end0
      exact ⟨rfl, HRR.out ▸ HG6.out⟩
end Go.Proofs.YtmejjphliaiamaaGreatDoor
