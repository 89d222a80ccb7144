import Derived.Test.YtobepddifflpdaaMirD
set_option linter.unusedVariables false
namespace Go.Proofs.Ytobepddifflpdaa
open Go Go.RowKit Go.Maps Go.WideMaps

abbrev bFile : ByteArray := ⟨#[102, 105, 108, 101]⟩

/-- what holds at the head of the loop. -/
def PartsRel (T : ByteArray) (B : Nat) (w : World) (m : Addr) (v : Option Nat) (got i : Value) (wr : World) : Prop :=
  ∃ (k : Nat) (G : ByteArray), G.size ≤ T.size ∧ k ≤ G.size + 1 ∧ i = .int .i64 k ∧ got = .string G ∧ Hid (T.extract 0 G.size = G) ∧
    Mir wr m v 1 ((DataW.map []).put (kS ⟨#[102, 105, 108, 101]⟩) (dS T)) ∧ Below B w wr ∧ B ≤ wr.heap.size

theorem part_size (T : ByteArray) (g : Nat) (N : Int) (hN : 1 ≤ N) (hg : g ≤ T.size) : ((partOf T g N).size : Int) = if N < (T.size : Int) - (g : Int) then N else (T.size : Int) - (g : Int) := by
  unfold partOf
  rw [ByteArray.size_extract]
  split <;> omega

theorem part_next {T G : ByteArray} {N : Int} (hG : T.extract 0 G.size = G) (hN : 1 ≤ N) (hg : G.size ≤ T.size) : T.extract 0 (G ++ partOf T G.size N).size = G ++ partOf T G.size N := by
  have h : G ++ partOf T G.size N = T.extract 0 (G.size + min N.toNat (T.size - G.size)) := by
    have e : T.extract 0 G.size ++ partOf T G.size N = T.extract 0 (G.size + min N.toNat (T.size - G.size)) := by
      unfold partOf
      rw [Int.toNat_natCast]
      exact ByteArray.extract_append_extract.trans (by congr 1 <;> omega)
    rw [hG] at e
    exact e
  rw [h, ByteArray.size_extract]
  congr 1
  omega

theorem extract00 (T : ByteArray) : T.extract 0 (⟨#[]⟩ : ByteArray).size = (⟨#[]⟩ : ByteArray) := by
  show T.extract 0 0 = _
  have h : (T.extract 0 0).size = 0 := by rw [ByteArray.size_extract]; omega
  have h2 := ByteArray.size_eq_zero_iff.1 h
  rw [h2]; rfl

def sizeOf' : Value → Nat
  | .string s => s.size
  | _ => 0

theorem quo_small (T : ByteArray) (most : Int) (h0 : 0 ≤ most) (hT : T.size ≤ 60000) : ∃ q : Int, 0 ≤ q ∧ wrap64 ((T.size : Int) / (1 + most)) = q := by
  have h1 : 0 ≤ (T.size : Int) / (1 + most) := Int.ediv_nonneg (by omega) (by omega)
  have h2 : (T.size : Int) / (1 + most) ≤ (T.size : Int) := Int.ediv_le_self _ (by omega)
  refine ⟨_, h1, ?_⟩
  unfold wrap64
  omega

theorem parts_step {T G Pt : ByteArray} {B : Nat} {w w2 : World} {m : Addr} {v : Option Nat} {k : Nat} {o : Obj} (hpn : T.extract 0 (G ++ Pt).size = G ++ Pt) (hM : Mir w2 m v 1 ((DataW.map []).put (kS ⟨#[102, 105, 108, 101]⟩) (dS T)))
    (hB : Below B w w2) (hBs : B ≤ w2.heap.size) (hk : k ≤ G.size + 1) (hps : G.size + Pt.size ≤ T.size) (hmore : 0 < Pt.size ∨ k = 0) :
    PartsRel T B w m v (.string (G ++ Pt)) (.int .i64 (↑k + 1)) (w2.alloc o) ∧
    2 * (T.size - sizeOf' (.string (G ++ Pt))) + (1 - (intOf (.int .i64 (↑k + 1))).toNat) < 2 * (T.size - sizeOf' (.string G)) + (1 - (intOf (.int .i64 ↑k)).toNat) := by
  have hz : (G ++ Pt).size = G.size + Pt.size := ByteArray.size_append
  refine ⟨⟨k + 1, G ++ Pt, by omega, by omega, rfl, rfl, hpn, hM.alloc o, hB.alloc hBs o, by rw [size_alloc]; omega⟩, ?_⟩
  simp only [sizeOf', intOf, hz]
  omega

set_option maxRecDepth 100000 in
set_option maxHeartbeats 2000000 in
theorem parts_any (text : ByteArray) (most : Int) (w : World) (h0 : 0 ≤ most) (h1 : most ≤ 65535) (hs : text.size ≤ 9223372036854775807) :
    Calls Try.prog 3 #[.string text, .int .u16 most] w (RetB (.bool true) w) := by
  go_enter Try.func3, Try.ntmps3
  go_wp2_with fail
  refine (serves_any w).mono ?_
  rintro e w0 ⟨rfl, hb0⟩
  have HB0 := Lib.hid hb0
  have hsz0 := hb0.size
  clear hb0
  go_wp2_with fail
  case' inl =>
    obtain ⟨T, hT, hTs⟩ : ∃ T : ByteArray, text.extract 0 60000 = T ∧ T.size ≤ 60000 := ⟨_, rfl, by rw [ByteArray.size_extract]; omega⟩
    rw [hT]
    clear hT
  case' inr =>
    obtain ⟨T, rfl⟩ : ∃ T : ByteArray, T = text := ⟨_, rfl⟩
    have hTs : T.size ≤ 60000 := by omega
  all_goals
    refine (put_first _ 0 _ T _ (by decide) (by decide) (by omega) (mir_new w0)).mono ?_
    rintro e w1 ⟨rfl, v1, hM, hv1, hk⟩
    have HM := Lib.hid hM
    have HB := Lib.hid ((HB0.out.alloc (Nat.le_trans (Nat.le_refl _) hsz0) _).trans (Kp.toBelow hk (B := w.heap.size) (by rw [size_alloc]; omega) (by rintro i (rfl | h); exact hsz0; cases h)))
    have hsz := hk.size
    rw [size_alloc] at hsz
    clear hM hv1 hk
    have Hget := Lib.hid (mget_put_same isMap_empty ⟨#[102, 105, 108, 101]⟩ T)
    obtain ⟨q, hq0, hd⟩ := quo_small T most h0 hTs
    by_cases hq : (500 : Int) < q
    case' pos =>
      have hqb : decide ((500 : Int) < q) = true := by simpa using hq
      go_wp2_with fail
      obtain ⟨N, hN, hN1, hN2⟩ : ∃ N : Int, 1 + (T.size : Int) / 500 = N ∧ 1 ≤ N ∧ N ≤ 70000 := ⟨_, rfl, by omega, by omega⟩
      rw [hd, hN]
      clear hN hd hqb
    case' neg =>
      have hqb : decide ((500 : Int) < q) = false := by simpa using hq
      go_wp2_with fail
      obtain ⟨N, hN, hN1, hN2⟩ : ∃ N : Int, 1 + most = N ∧ 1 ≤ N ∧ N ≤ 70000 := ⟨_, rfl, by omega, by omega⟩
      rw [hd, hN]
      clear hN hd hqb
    all_goals
      go_loopw [6, 8] (fun got i wr => PartsRel T w.heap.size w ⟨w0.heap.size, 0, none⟩ v1 got i wr) (fun got i _ => 2 * (T.size - sizeOf' got) + (1 - (intOf i).toNat))
      case atStart => exact ⟨0, _, Nat.zero_le _, Nat.zero_le _, rfl, rfl, extract00 T, HM.out, HB.out, by omega⟩
    all_goals
      obtain ⟨k, G, hg, hk, rfl, rfl, HG, hMr, hBr, hszr⟩ := hrel
      have HMr := Lib.hid hMr
      have HBr := Lib.hid hBr
      clear hMr hBr
      by_cases hlt : (G.size : Int) < (T.size : Int)
      · go_wp2_with fail
        refine (answer_ok _ v1 1 _ _ _ _ _ T wr (by decide) (by unfold maxLen; omega) HMr.out Hget.out (by omega) (by omega) (by omega)).mono ?_
        have hps := part_size T G.size N hN1 hg
        have hpn := part_next HG.out hN1 hg
        generalize partOf T G.size N = Pt at hps hpn ⊢
        have Hpn := Lib.hid hpn
        rintro e w2 ⟨rfl, hb2⟩
        have HM2 := Lib.hid (HMr.out.below hb2)
        have HB2 := Lib.hid (HBr.out.trans (hb2.mono hszr))
        have hsz2 := hb2.size
        clear hpn hb2
        by_cases hN : N < (T.size : Int) - (G.size : Int)
        · rw [if_pos hN] at hps
          go_wp2_with fail
          exact parts_step Hpn.out HM2.out HB2.out (by omega) hk (by omega) (.inl (by omega))
        · rw [if_neg hN] at hps
          go_wp2_with fail
          exact parts_step Hpn.out HM2.out HB2.out (by omega) hk (by omega) (.inl (by omega))
      · by_cases hk0 : k = 0
        · subst hk0
          go_wp2_with fail
          refine (answer_ok _ v1 1 _ _ _ _ _ T wr (by decide) (by unfold maxLen; omega) HMr.out Hget.out (by omega) (by omega) (by omega)).mono ?_
          have hps := part_size T G.size N hN1 hg
          have hpn := part_next HG.out hN1 hg
          generalize partOf T G.size N = Pt at hps hpn ⊢
          have Hpn := Lib.hid hpn
          rintro e w2 ⟨rfl, hb2⟩
          have HM2 := Lib.hid (HMr.out.below hb2)
          have HB2 := Lib.hid (HBr.out.trans (hb2.mono hszr))
          have hsz2 := hb2.size
          clear hpn hb2
          rw [if_neg (by omega)] at hps
          go_wp2_with fail
          exact parts_step (k := 0) Hpn.out HM2.out HB2.out (by omega) hk (by omega) (.inr rfl)
        · have hGT : T = G := by
            have h := HG.out
            rw [show G.size = T.size by omega] at h
            rw [← h]
            exact ByteArray.extract_zero_size.symm
          subst hGT
          have hfe := field_err
          go_wp2_with fail
          refine (answer_beyond _ v1 1 _ _ _ _ _ T wr (by decide) HMr.out Hget.out (by omega) (by omega)).mono ?_
          rintro e w2 ⟨rfl, hb2⟩
          have HM2 := Lib.hid (HMr.out.below hb2)
          have HB2 := Lib.hid (HBr.out.trans (hb2.mono hszr))
          have hsz2 := hb2.size
          clear hb2
          go_wp2_with fail
          refine (answer_neg _ v1 1 _ _ _ _ _ T w2 (by decide) HM2.out Hget.out (by omega)).mono ?_
          rintro e w3 ⟨rfl, hb3⟩
          have HB3 := Lib.hid (HB2.out.trans (hb3.mono (by omega)))
          clear hb3
          go_wp2_with fail
          go_ret
          exact ⟨rfl, HB3.out⟩
end Go.Proofs.Ytobepddifflpdaa
