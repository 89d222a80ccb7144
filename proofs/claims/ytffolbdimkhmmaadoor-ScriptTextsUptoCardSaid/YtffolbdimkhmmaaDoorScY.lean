import Derived.Test.YtffolbdimkhmmaaDoorScX
set_option linter.unusedVariables false
set_option linter.unusedSimpArgs false
namespace Go.Proofs.YtffolbdimkhmmaaDoor
open Go Go.RowKit Go.Lib

/-! ### the document's example -/
def exS : ByteArray := ⟨#[111, 102, 102, 101, 114, 32, 50, 32, 54, 52, 32, 39, 105, 109, 97, 103, 101, 10, 35, 32, 110, 111, 116, 101, 10, 10, 32, 112, 114, 101, 115, 115, 32, 32, 49]⟩
def exT : ByteArray := ⟨#[111, 102, 102, 101, 114, 32, 50, 32, 54, 52, 32, 39, 105, 109, 97, 103, 101, 10, 112, 114, 101, 115, 115, 32, 49, 10]⟩
def exA : StP := ⟨1, 0, 64, 2, ⟨#[105, 109, 97, 103, 101]⟩, []⟩
def exB : StP := ⟨2, 0, 1, 0, ⟨#[]⟩, []⟩
theorem ex_parse : parseP exS = ([(exA, 1), (exB, 4)], 0, 0) := by kernel_rfl
theorem ex_text : textsP [exA, exB] = (exT, 0, 0) := by kernel_rfl
theorem ex_ok : ∀ x ∈ [exA, exB], okS x := by
  intro x hx
  rcases List.mem_cons.1 hx with rfl | hx
  · exact ⟨⟨by show (-9223372036854775808 : Int) ≤ 0 ∧ (0 : Int) ≤ _; omega, by show (-9223372036854775808 : Int) ≤ 64 ∧ (64 : Int) ≤ _; omega, by show (-9223372036854775808 : Int) ≤ 2 ∧ (2 : Int) ≤ _; omega, fun y hy => by cases hy⟩, by show (-9223372036854775808 : Int) ≤ 1 ∧ (1 : Int) ≤ _; omega⟩
  · rw [List.mem_singleton.1 hx]
    exact ⟨⟨by show (-9223372036854775808 : Int) ≤ 0 ∧ (0 : Int) ≤ _; omega, by show (-9223372036854775808 : Int) ≤ 1 ∧ (1 : Int) ≤ _; omega, by show (-9223372036854775808 : Int) ≤ 0 ∧ (0 : Int) ≤ _; omega, fun y hy => by cases hy⟩, by show (-9223372036854775808 : Int) ≤ 2 ∧ (2 : Int) ≤ _; omega⟩
set_option maxRecDepth 100000 in
set_option maxHeartbeats 1000000 in
theorem reads_any (w : World) (hV : VarsV w) : Calls Tryd.prog 8 #[] w fun e w' => e = .returned (.bool true) ∧ Below w.heap.size w w' := by
  have HP := Lib.hid (sparse_any exS w (by decide) hV)
  have HV := Lib.hid hV
  clear hV
  go_enter Tryd.func8, Tryd.ntmps8
  go_wp2_with fail
  refine HP.out.mono ?_
  unfold StepsPost
  rw [ex_parse]
  rintro e w1 ⟨v1, rfl, hS, -, hb1⟩
  have hS' : StM w1 v1 [exA, exB] := hS
  have HT := Lib.hid (text_all v1 [exA, exB] w1 (HV.out.below hb1) hS' ex_ok (by decide))
  have HS := Lib.hid hS'
  obtain ⟨ad, cap, rfl, -⟩ := id hS'
  have HB1 := Lib.hid hb1
  clear hS hS' hb1 HP
  go_wp2_with fail
  refine HT.out.mono ?_
  unfold TextPostS
  rw [ex_text]
  rintro e w2 ⟨rfl, hb2⟩
  obtain ⟨ad2, cap2, e2, -, -, hc⟩ := HS.out.below hb2
  injection e2 with e2 _ e3
  obtain ⟨pb, po, kv, e4, hcc, -⟩ := hc 0 exA rfl
  rw [e4] at e2
  subst e2
  have c4 : w2.cell? ⟨pb, po + 4, none⟩ = some (.string ⟨#[105, 109, 97, 103, 101]⟩) := by
    have := hcc 4 _ rfl
    rwa [Nat.zero_mul, Nat.add_zero] at this
  have HB2 := Lib.hid (HB1.out.trans (hb2.mono HB1.out.size))
  have hq1 : ((⟨#[105, 109, 97, 103, 101]⟩ : ByteArray).toList == [105, 109, 97, 103, 101]) = true := by decide +kernel
  have hq2 : (exT.toList == ([111, 102, 102, 101, 114, 32, 50, 32, 54, 52, 32, 39, 105, 109, 97, 103, 101, 10, 112, 114, 101, 115, 115, 32, 49, 10] : List UInt8)) = true := by decide +kernel
  clear hc hcc hb2 e3 e4 HT HS
  go_wp2_with fail
  go_ret
  exact ⟨rfl, HB2.out⟩

/-! ### limits -/
theorem rep_hash : ∀ c : Nat, Lib.repeatL [120] c = List.replicate c 120
  | 0 => rfl
  | c + 1 => by rw [Lib.repeatL, rep_hash c]; rfl
theorem rep_fresh : ∀ k : Nat, Lib.repeatL [114, 101, 102, 114, 101, 115, 104, 10] k = nlsL (List.replicate k freshL)
  | 0 => rfl
  | k + 1 => by rw [Lib.repeatL, rep_fresh k, List.replicate_succ]; rfl
theorem hash_eq (c : Nat) : (⟨#[35]⟩ : ByteArray) ++ ⟨(Lib.repeatL [120] c).toArray⟩ = hashB c := by
  rw [rep_hash]
  apply ba_ext
  rw [ba_app]
  rfl
theorem rep_hash_any (c : Nat) (w : World) (h : c ≤ 70000) : Calls Tryd.prog 18 #[.string ⟨#[120]⟩, .int .i64 c] w fun e w' => e = .returned (.string ⟨(Lib.repeatL [120] c).toArray⟩) ∧ Below w.heap.size w w' :=
  Tryd.strings_Repeat ⟨#[120]⟩ c w (by omega) (by rw [show (⟨#[120]⟩ : ByteArray).size = 1 from rfl]; omega)
theorem rep_fresh_any (k : Nat) (w : World) (h : k ≤ 70000) : Calls Tryd.prog 18 #[.string ⟨#[114, 101, 102, 114, 101, 115, 104, 10]⟩, .int .i64 k] w fun e w' => e = .returned (.string (freshB k)) ∧ Below w.heap.size w w' := by
  have := Tryd.strings_Repeat ⟨#[114, 101, 102, 114, 101, 115, 104, 10]⟩ k w (by omega) (by rw [show (⟨#[114, 101, 102, 114, 101, 115, 104, 10]⟩ : ByteArray).size = 8 from rfl]; omega)
  rw [show (⟨#[114, 101, 102, 114, 101, 115, 104, 10]⟩ : ByteArray).data.toList = [114, 101, 102, 114, 101, 115, 104, 10] from rfl, rep_fresh] at this
  exact this
theorem sts_fresh : ∀ k : Nat, stsW (List.replicate k (zst 3)) = 200 * k
  | 0 => rfl
  | k + 1 => by rw [List.replicate_succ, stsW, sts_fresh k]; show 200 + _ = _; omega
set_option maxRecDepth 100000 in
set_option maxHeartbeats 4000000 in
theorem limits_any (b l : Int) (w : World) (hV : VarsV w) (hb0 : 0 ≤ b) (hb1 : b ≤ 255) (hl0 : 0 ≤ l) (hl1 : l ≤ 255) :
    Calls Tryd.prog 7 #[.int .u8 b, .int .u8 l] w fun e w' => e = .returned (.bool true) ∧ Below w.heap.size w w' := by
  obtain ⟨m, hm⟩ : ∃ m : Nat, b % 7 = (m : Int) := ⟨(b % 7).toNat, by omega⟩
  obtain ⟨q, hq⟩ : ∃ q : Nat, l % 7 = (q : Int) := ⟨(l % 7).toNat, by omega⟩
  obtain ⟨c, hc⟩ : ∃ c : Nat, c = 65532 + m := ⟨_, rfl⟩
  obtain ⟨k, hk⟩ : ∃ k : Nat, k = 1021 + q := ⟨_, rfl⟩
  have hm7 : m < 7 := by omega
  have hq7 : q < 7 := by omega
  obtain ⟨n, hn⟩ : ∃ n : Nat, n = c + 1 := ⟨_, rfl⟩
  have hcn : (65533 : Int) + (m : Int) = (n : Int) := by omega
  have hkn : (1021 : Int) + (q : Int) = (k : Int) := by omega
  have hc1 : (n : Int) - 1 = (c : Int) := by omega
  have hcl : c ≤ 65538 := by omega
  have hkl : k ≤ 1027 := by omega
  have hk0 : 0 < k := by omega
  have hcl2 : 65532 ≤ c := by omega
  have HR := Lib.hid (reads_any w hV)
  have HV := Lib.hid hV
  have HNn := Lib.hid hn
  have hn1 : 65533 ≤ n := by omega
  have hn2 : n ≤ 65539 := by omega
  clear hc hk hV hn
  go_enter Tryd.func7, Tryd.ntmps7
  go_wp2_with fail
  refine HR.out.mono ?_
  rintro e w1 ⟨rfl, hb1'⟩
  have HB1 := Lib.hid hb1'
  clear hb1' HR
  go_wp2_with fail
  refine (rep_hash_any c w1 (by omega)).mono ?_
  rintro e w2 ⟨rfl, hb2⟩
  have hrs : (⟨(Lib.repeatL [120] c).toArray⟩ : ByteArray).size = c := by rw [rep_hash, size_data]; simp
  have hroom : ¬ 9223372036854775807 < 1 + (⟨(Lib.repeatL [120] c).toArray⟩ : ByteArray).size := by omega
  have hp : Calls Tryd.prog 9 #[.string (⟨#[35]⟩ ++ ⟨(Lib.repeatL [120] c).toArray⟩)] w2 (StepsPost (hashB c) w2) := by
    rw [hash_eq]
    exact sparse_any (hashB c) w2 (by rw [hash_size]; omega) (HV.out.below (HB1.out.trans (hb2.mono HB1.out.size)))
  unfold StepsPost at hp
  rw [parse_hash] at hp
  generalize (⟨(Lib.repeatL [120] c).toArray⟩ : ByteArray) = rs at hrs hroom hp ⊢
  have HB2 := Lib.hid (HB1.out.trans (hb2.mono HB1.out.size))
  clear hb2 hrs
  have hn := HNn.out
  by_cases hbig1 : 65536 < c + 1
  case' pos =>
    rw [if_pos hbig1] at hp
    have hbi1 : (65536 : Int) < (n : Int) := by omega
  case' neg =>
    rw [if_neg hbig1] at hp
    have hbi1 : ¬ (65536 : Int) < (n : Int) := by omega
  all_goals
    have HP := Lib.hid hp
    clear hp hbig1 hn
    go_wp2_with fail
    refine HP.out.mono ?_
    rintro e w3 ⟨v3, rfl, hS3, -, hb3⟩
    obtain ⟨ad3, cap3, rfl, -⟩ := hS3
    have HB3 := Lib.hid (HB2.out.trans (hb3.mono HB2.out.size))
    clear hb3 HP
    go_wp2_with fail
    refine (rep_fresh_any k _ (by omega)).mono ?_
    rintro e w4 ⟨rfl, hb4⟩
    have hp4 := sparse_any (freshB k) w4 (by rw [fresh_size]; omega) (HV.out.below (HB3.out.trans (hb4.mono HB3.out.size)))
    have HB4 := Lib.hid (HB3.out.trans (hb4.mono HB3.out.size))
    clear hb4
    rcases parse_fresh k hk0 with ⟨hbig, hpf⟩ | ⟨hsml, L, hpf, hL⟩
    · have hbi : (1024 : Int) < (k : Int) := by omega
      unfold StepsPost at hp4
      rw [hpf] at hp4
      have HP4 := Lib.hid hp4
      clear hp4 hpf
      go_wp2_with fail
      refine HP4.out.mono ?_
      rintro e w5 ⟨v5, rfl, hS5, -, hb5⟩
      obtain ⟨ad5, cap5, rfl, -⟩ := hS5
      have HB5 := Lib.hid (HB4.out.trans (hb5.mono HB4.out.size))
      clear hb5
      go_wp2_with fail
      go_ret
      exact ⟨rfl, HB5.out⟩
    · have hbi : ¬ (1024 : Int) < (k : Int) := by omega
      unfold StepsPost at hp4
      rw [hpf] at hp4
      dsimp only at hp4
      rw [hL] at hp4
      have HP4 := Lib.hid hp4
      clear hp4 hpf hL
      go_wp2_with fail
      refine HP4.out.mono ?_
      rintro e w5 ⟨v5, rfl, hS5, -, hb5⟩
      have hRp := fun W => rep_fresh_any k W (by omega)
      have hT := text_all v5 (List.replicate k (zst 3)) w5 (HV.out.below (HB4.out.trans (hb5.mono HB4.out.size))) hS5 (fun x hx => by
        rw [(List.mem_replicate.1 hx).2]
        exact ⟨zst_inR 3, by show (-9223372036854775808 : Int) ≤ 3 ∧ (3 : Int) ≤ _; omega⟩) (by rw [sts_fresh]; omega)
      unfold TextPostS at hT
      rw [fresh_texts k hsml] at hT
      generalize freshB k = fb at hT hRp HP4 ⊢
      obtain ⟨ad5, cap5, rfl, -⟩ := hS5
      rw [List.length_replicate] at hT ⊢
      have HT := Lib.hid hT
      have HRp := Lib.hid hRp
      have HB5 := Lib.hid (HB4.out.trans (hb5.mono HB4.out.size))
      clear hb5 hT hRp HP4
      go_wp2_with fail
      refine HT.out.mono ?_
      rintro e w6 ⟨rfl, hb6⟩
      have HB6 := Lib.hid (HB5.out.trans (hb6.mono HB5.out.size))
      clear hb6
      go_wp2_with fail
      refine (HRp.out _).mono ?_
      rintro e w7 ⟨rfl, hb7⟩
      have HB7 := Lib.hid (HB6.out.trans (hb7.mono HB6.out.size))
      clear hb7
      have hqq : (fb.toList == fb.toList) = true := beq_self_eq_true _
      go_wp2_with fail
      go_ret
      exact ⟨rfl, HB7.out⟩
end Go.Proofs.YtffolbdimkhmmaaDoor
