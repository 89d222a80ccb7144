import Derived.Test.YtmejjphliaiamaaGreatDoorOtS
import Derived.Test.YtmejjphliaiamaaGreatDoorMeL
import Derived.Test.YtmejjphliaiamaaGreatDoorMfV
import Derived.Test.YtmejjphliaiamaaGreatDoorMgI
import Derived.Test.YtmejjphliaiamaaGreatDoorOtT
import Derived.Test.YtmejjphliaiamaaGreatDoorOtU
import Derived.Test.YtmejjphliaiamaaGreatDoorMeS
import Derived.Test.YtmejjphliaiamaaGreatDoorMgM
set_option linter.unusedVariables false
set_option linter.unusedSimpArgs false
namespace Go.Proofs.YtmejjphliaiamaaGreatDoor
open Go Go.RowKit Go.Lib Go.Sort

/-! ### sets in a row -/
abbrev SetV := SV × SetT
def setV (x : SetV) : Value := .agg #[.slice x.1.ad x.1.n x.1.c, .int .i64 x.1.need]
def SetsA (w : World) (ad : Option Addr) (L : List SetV) : Prop :=
  ∀ i f, L[i]? = some f → ∃ pb po, ad = some ⟨pb, po, none⟩ ∧ w.cell? ⟨pb, po + i * 2, none⟩ = some (.slice f.1.ad f.1.n f.1.c) ∧ w.cell? ⟨pb, po + i * 2 + 1, none⟩ = some (.int .i64 f.1.need) ∧ SetM w f.1 f.2 ∧ f.2.1.length ≤ 100000000
theorem SetsA.below {w w' : World} {ad : Option Addr} {L : List SetV} (h : SetsA w ad L) (k : Below w.heap.size w w') : SetsA w' ad L := by
  intro i f hf
  obtain ⟨pb, po, e, h1, h2, h3, h4⟩ := h i f hf
  exact ⟨pb, po, e, (k.cell (cell_lt h1)).trans h1, (k.cell (cell_lt h2)).trans h2, h3.below k, h4⟩
theorem SetsA.mem {w : World} {ad : Option Addr} {L : List SetV} (h : SetsA w ad L) : ∀ x ∈ L, SetM w x.1 x.2 ∧ x.2.1.length ≤ 100000000 := by
  intro x hx
  obtain ⟨i, hi, rfl⟩ := List.getElem_of_mem hx
  obtain ⟨_, _, _, _, _, h3, h4⟩ := h i L[i] (List.getElem?_eq_getElem hi)
  exact ⟨h3, h4⟩
theorem SetsA.take {w : World} {ad : Option Addr} {L : List SetV} (h : SetsA w ad L) (n : Nat) : SetsA w ad (L.take n) := by
  intro i f hf
  rw [List.getElem?_take] at hf
  split at hf
  · exact h i f hf
  · cases hf
/-- the place of the first set that meets p, or -1. -/
def setIdx (p : SetV → Bool) : Nat → List SetV → Int
  | _, [] => -1
  | k, x :: r => if p x = true then (k : Int) else setIdx p (k + 1) r
theorem setIdx_any (p : SetV → Bool) : ∀ (l : List SetV) (k : Nat), decide (0 ≤ setIdx p k l) = l.any p
  | [], k => rfl
  | x :: r, k => by
    unfold setIdx
    cases hp : p x with
    | true => simp [hp]
    | false => simp only [hp, List.any_cons, Bool.false_or]; exact setIdx_any p r (k + 1)
def SetPred (g : Nat) (lb : Array Value) (p : SetV → Bool) (l : List SetV) (w : World) : Prop :=
  ∀ (W : World) (x : SetV), x ∈ l → Below w.heap.size w W → Calls Tryz.prog g (#[setV x] ++ lb) W fun e w' => e = .returned (.bool (p x)) ∧ Below W.heap.size W w'
def SdxRel (p : SetV → Bool) (L : List SetV) (w : World) (i : Value) (wr : World) : Prop := ∃ k : Nat, k ≤ L.length ∧ i = .int .i64 k ∧ setIdx p 0 L = setIdx p k (L.drop k) ∧ Below w.heap.size w wr

set_option maxRecDepth 100000 in
set_option maxHeartbeats 1000000 in
theorem setidx_any (g : Nat) (lb : Array Value) (eg : ∀ args w, (callFunc g args).run Tryz.prog w = .ok (.enter g args) w) (p : SetV → Bool) (ad : Option Addr) (L : List SetV) (c : Nat) (w : World) (hL : SetsA w ad L) (hn : L.length ≤ 9223372036854775807) (hp : SetPred g lb p L w) :
    Calls Tryz.prog 123 #[.slice ad L.length c, .func (.func g) #[] lb] w fun e w' => e = .returned (.int .i64 (setIdx p 0 L)) ∧ Below w.heap.size w w' := by
  have HL := Lib.hid hL
  have HP := Lib.hid hp
  clear hL hp
  go_enter Tryz.func123, Tryz.ntmps123
  go_wp2_with fail
  go_loopw [8] (fun i wr => SdxRel p L w i wr) (fun i _ => L.length - (intOf i).toNat)
  case atStart => exact ⟨0, Nat.zero_le _, rfl, rfl, Below.refl _ _⟩
  case round =>
    obtain ⟨k, hk, rfl, hg, hB⟩ := hrel
    have HG := Lib.hid hg
    have HB := Lib.hid hB
    clear hg hB
    by_cases hlt : k < L.length
    · obtain ⟨pb, po, rfl, c0, c1, -⟩ := (HL.out.below HB.out) k L[k] (List.getElem?_eq_getElem hlt)
      have hmem : L[k] ∈ L := List.getElem_mem hlt
      have hdrop : L.drop k = L[k] :: L.drop (k + 1) := List.drop_eq_getElem_cons hlt
      generalize hF : L[k] = f at c0 c1 hdrop hmem
      have hgd : setIdx p 0 L = if p f = true then (k : Int) else setIdx p (k + 1) (L.drop (k + 1)) := by rw [HG.out, hdrop]; rfl
      have HD := Lib.hid hgd
      have hk0 : (0 : Int) ≤ (k : Int) := Int.natCast_nonneg _
      have hk1 : (k : Int) < (L.length : Int) := by omega
      have hpf := HP.out wr f hmem HB.out
      unfold setV at hpf
      have HPF := Lib.hid hpf
      clear hdrop hgd hF hpf hmem
      go_wp2_with fail
      refine HPF.out.mono ?_
      rintro e w1 ⟨rfl, hb⟩
      have HB1 := Lib.hid (HB.out.trans (hb.mono HB.out.size))
      clear hb
      cases hpb : p f with
      | true =>
        have HR := Lib.hid (HD.out.trans (if_pos hpb))
        go_wp2_with fail
        go_ret
        rw [HR.out]
        exact ⟨rfl, HB1.out⟩
      | false =>
        have HR := Lib.hid (HD.out.trans (if_neg (by rw [hpb]; decide)))
        go_wp2_with fail
        refine ⟨⟨k + 1, hlt, rfl, HR.out, HB1.out⟩, ?_⟩
        show L.length - ((k : Int) + 1).toNat < L.length - (k : Int).toNat
        omega
    · have hkn : k = L.length := by omega
      subst hkn
      have hres : setIdx p 0 L = -1 := by rw [HG.out, List.drop_length]; rfl
      have HR := Lib.hid hres
      clear hres
      go_wp2_with fail
      go_ret
      rw [HR.out]
      exact ⟨rfl, HB.out⟩

set_option maxRecDepth 100000 in
theorem setcon_any (g : Nat) (lb : Array Value) (eg : ∀ args w, (callFunc g args).run Tryz.prog w = .ok (.enter g args) w) (p : SetV → Bool) (ad : Option Addr) (L : List SetV) (c : Nat) (w : World) (hL : SetsA w ad L) (hn : L.length ≤ 9223372036854775807) (hp : SetPred g lb p L w) :
    Calls Tryz.prog 68 #[.slice ad L.length c, .func (.func g) #[] lb] w fun e w' => e = .returned (.bool (L.any p)) ∧ Below w.heap.size w w' := by
  have HC := Lib.hid (setidx_any g lb eg p ad L c w hL hn hp)
  rw [← setIdx_any p L 0]
  generalize setIdx p 0 L = i at HC
  go_enter Tryz.func68, Tryz.ntmps68
  go_wp2_with fail
  refine HC.out.mono ?_
  rintro e w1 ⟨rfl, hb⟩
  have HB := Lib.hid hb
  clear hb
  go_wp2_with fail
  go_ret
  exact ⟨rfl, HB.out⟩


set_option maxRecDepth 100000 in
set_option maxHeartbeats 1000000 in
theorem openf_any (x : SetV) (pt ps : Nat) (text : ByteArray) (ad : Option Addr) (L : List SigT) (c : Nat) (w : World) (hS : SetM w x.1 x.2) (hm : x.2.1.length ≤ 100000000) (hL : SigsM w ad L) (hn : L.length ≤ 1000000) (ht : text.size ≤ 100000000) (ct : w.cell? ⟨pt, 0, none⟩ = some (.string text)) (cs : w.cell? ⟨ps, 0, none⟩ = some (.slice ad L.length c)) :
    Calls Tryz.prog 69 #[setV x, .pointer (some ⟨pt, 0, none⟩), .pointer (some ⟨ps, 0, none⟩)] w fun e w' => e = .returned (.bool (!enoughB x.2 text L)) ∧ Below w.heap.size w w' := by
  have HEn := Lib.hid (fun W (hW : Below w.heap.size w W) => enough_any x.1 x.2 text ad L c W (hS.below hW) hm (hL.below hW) hn ht)
  generalize enoughB x.2 text L = en at HEn ⊢
  obtain ⟨sv, S⟩ := x
  unfold setV
  dsimp only at *
  have cta := fun o => cell_alloc ct o
  have csa := fun o => cell_alloc cs o
  have hb : Below w.heap.size w (w.alloc (.cells #[.slice sv.ad sv.n sv.c, .int .i64 sv.need] 24)) := (Below.refl _ _).alloc (Nat.le_refl _) _
  have HB := Lib.hid hb
  clear hS hL hb
  go_enter Tryz.func69, Tryz.ntmps69
  go_wp2_with fail
  refine (HEn.out _ HB.out).mono ?_
  rintro e w1 ⟨rfl, hb1⟩
  have HB1 := Lib.hid (HB.out.trans (hb1.mono HB.out.size))
  clear hb1
  go_wp2_with fail
  go_ret
  exact ⟨rfl, HB1.out⟩

/-! ### a sealed document, opened for sets -/
def openE (s : ByteArray) (k : Int) (l : List SetV) : Int :=
  if (usP s).2 ≠ 0 then (usP s).2
  else if (decD (usP s).1.1).2 ≠ 0 then (decD (usP s).1.1).2
  else if (decD (usP s).1.1).1.kind ≠ k then 1
  else if l.any (fun x => !enoughB x.2 (usP s).1.1 (usP s).1.2) = true then 9 else 0
def openD (s : ByteArray) (k : Int) (l : List SetV) : PD := if openE s k l = 0 then (decD (usP s).1.1).1 else pz
def openB (s : ByteArray) (k : Int) (l : List SetV) : ByteArray := if openE s k l = 0 then (usP s).1.1 else ⟨#[]⟩
def OpenPost (e0 : Int) (p : PD) (b : ByteArray) (w : World) (e : Ending) (w' : World) : Prop := ∃ d', e = .returned (.tuple #[.agg (docC d'), .string b, .int .i64 e0]) ∧ DocOwn w' w.heap.size d' p ∧ Below w.heap.size w w'
theorem usP_short (s : ByteArray) : (usP s).1.2.length ≤ 16 := by
  unfold usP
  split
  · exact Nat.zero_le _
  · rename_i h
    show (usT s).1.length ≤ 16
    omega
theorem open_bad {fn : Func} {e0 : Int} {p : PD} {b : ByteArray} (a : Act) (w0 w : World) (rb : Nat) (e : Int) (h : DocAt w rb dz) (hb : Below w0.heap.size w0 w) (he : e0 = e) (hp : p = pz) (hbb : b = ⟨#[]⟩)
    (hf : fn.results = #[.cell 6 30, .tmp 7, .tmp 8])
    (ha : a.tmps[6]?.getD undef = .pointer (some ⟨rb, 0, none⟩)) (hs : a.tmps[7]?.getD undef = .string ⟨#[]⟩) (hc : a.tmps[8]?.getD undef = .int .i64 e) (hd : a.defers = []) : bodyPost Tryz.prog fn (OpenPost e0 p b w0) Exit.ret a w := by
  subst he hp hbb
  exact doc_ret3 a w rb dz ⟨#[]⟩ _ h hf ha hs hc hd ⟨dz, rfl, doc_none, hb⟩

set_option maxRecDepth 100000 in
set_option maxHeartbeats 4000000 in
theorem open_any (s : ByteArray) (k : Int) (ad : Option Addr) (l : List SetV) (c : Nat) (w : World) (hs : s.size ≤ 1000000000) (hV : VarsP w) (hl : SetsA w ad l) (hn : l.length ≤ 1000000) (hbs : (usP s).1.1.size ≤ 100000000) :
    Calls Tryz.prog 23 #[.string s, .int .i64 k, .slice ad l.length c] w (OpenPost (openE s k l) (openD s k l) (openB s k l) w) := by
  obtain ⟨w1, hw1⟩ : ∃ w1, w1 = w.alloc (.cells (docC dz) 30) := ⟨_, rfl⟩
  have ho1 : DocAt w1 w.heap.size dz := by rw [hw1]; exact blk_new _ _
  have hb1 : Below w.heap.size w w1 := by rw [hw1]; exact (Below.refl _ w).alloc (Nat.le_refl _) _
  have HO1 := Lib.hid ho1
  have HB1 := Lib.hid hb1
  have HV := Lib.hid hV
  have HLs := Lib.hid hl
  have HU := unseal_any s w1 hs
  have hus := usP_short s
  unfold UsPost at HU
  have hE : ∀ x, openE s k l = x → openE s k l = x := fun _ h => h
  have hD : openD s k l = if openE s k l = 0 then (decD (usP s).1.1).1 else pz := rfl
  have hB : openB s k l = if openE s k l = 0 then (usP s).1.1 else ⟨#[]⟩ := rfl
  generalize openD s k l = oD at hD ⊢
  generalize openB s k l = oB at hB ⊢
  obtain ⟨oE, hoE⟩ : ∃ oE, oE = openE s k l := ⟨_, rfl⟩
  rw [← hoE] at hD hB ⊢
  unfold openE at hoE
  generalize usP s = U at HU hD hB hoE hbs hus
  obtain ⟨⟨body, L⟩, ue⟩ := U
  dsimp only at HU hD hB hoE hbs hus
  have HUs := Lib.hid HU
  have hdc := fun W hW => decode_all body W (by omega) hW
  unfold DecAll at hdc
  generalize decD body = Dd at hdc hD hB hoE
  obtain ⟨p, de⟩ := Dd
  dsimp only at hdc hD hB hoE
  have HDec := Lib.hid hdc
  have HoE := Lib.hid hoE
  have HoD := Lib.hid hD
  have HoB := Lib.hid hB
  simp only [docC, dz, sz] at hw1
  clear ho1 hb1 HU hdc hoE hD hB hE hV hl
  go_enter Tryz.func23, Tryz.ntmps23
  go_wp2_with fail
  rw [← hw1]
  clear hw1
  refine HUs.out.mono ?_
  rintro e w2 ⟨v, rfl, hown, hb2⟩
  have HO2 := Lib.hid (HO1.out.later hb2)
  have HB2 := Lib.hid (HB1.out.trans (hb2.mono HB1.out.size))
  obtain ⟨ao, cap, rfl, hSg⟩ := OwnG.sigs hown
  have HSg := Lib.hid hSg
  have hn2 : w2.heap.size ≠ w.heap.size := by have := (Array.getElem?_eq_some_iff.1 HO2.out).1; omega
  have hn2s : w.heap.size < w2.heap.size := (Array.getElem?_eq_some_iff.1 HO2.out).1
  clear hb2 HUs HO1 HB1 hown hSg
  have hy2 : ((w2.alloc (.cells #[.string body] 9)).alloc (.cells #[.slice ao L.length cap] 41)).heap[w2.heap.size]? = some (.cells #[.string body] 9 (0, 0)) := blk_new1 _ _ _
  have hz2 : ((w2.alloc (.cells #[.string body] 9)).alloc (.cells #[.slice ao L.length cap] 41)).heap[w2.heap.size + 1]? = some (.cells #[.slice ao L.length cap] 41 (0, 0)) := blk_new2 _ _ _
  have ho3 : DocAt ((w2.alloc (.cells #[.string body] 9)).alloc (.cells #[.slice ao L.length cap] 41)) w.heap.size dz := blk_alloc (blk_alloc HO2.out _) _
  have hb3 : Below w.heap.size w ((w2.alloc (.cells #[.string body] 9)).alloc (.cells #[.slice ao L.length cap] 41)) := (HB2.out.alloc HB2.out.size _).alloc (by rw [size_alloc]; have := HB2.out.size; omega) _
  have hg3 := HSg.out.below (((Below.refl w2.heap.size w2).alloc (Nat.le_refl _) (.cells #[.string body] 9)).alloc (by simp) (.cells #[.slice ao L.length cap] 41))
  have HO3 := Lib.hid ho3
  have HB3 := Lib.hid hb3
  have HY3 := Lib.hid hy2
  have HZ3 := Lib.hid hz2
  have HG3 := Lib.hid hg3
  clear hy2 hz2 ho3 hb3 hg3 HO2 HB2 HSg
  by_cases hu : ue = 0
  · have hub : (ue != 0) = false := by rw [hu]; rfl
    have hoe := HoE.out
    rw [if_neg (by rw [hu]; decide)] at hoe
    have HoE1 := Lib.hid hoe
    clear hoe HoE hu
    go_wp2_with fail
    generalize (w2.alloc (.cells #[.string body] 9)).alloc (.cells #[.slice ao L.length cap] 41) = w3 at HO3 HB3 HY3 HZ3 HG3 ⊢
    refine (HDec.out w3 (HV.out.below HB3.out)).mono ?_
    rintro e w4 ⟨d', rfl, hdo, hb4⟩
    have ho4 := HO3.out.later hb4
    have hy4 := blk_later HY3.out hb4
    have hz4 := blk_later HZ3.out hb4
    have hg4 := HG3.out.below hb4
    have hB4 := HB3.out.trans (hb4.mono HB3.out.size)
    have hlt4 : w.heap.size < w4.heap.size := (Array.getElem?_eq_some_iff.1 ho4).1
    have hltz : w2.heap.size + 1 < w4.heap.size := (Array.getElem?_eq_some_iff.1 hz4).1
    have hd5 : DocAt (w4.alloc (.cells (docC dz) 30)) w4.heap.size dz := blk_new _ _
    have hd6 := doc_setRow hd5 d'
    have ho6 : DocAt ((w4.alloc (.cells (docC dz) 30)).setRow w4.heap.size (docC d')) w.heap.size dz := blk_kp (blk_alloc ho4 _) hd6.2 (by omega)
    have hy6 : ((w4.alloc (.cells (docC dz) 30)).setRow w4.heap.size (docC d')).heap[w2.heap.size]? = some (.cells #[.string body] 9 (0, 0)) := blk_kp (blk_alloc hy4 _) hd6.2 (by omega)
    have hz6 : ((w4.alloc (.cells (docC dz) 30)).setRow w4.heap.size (docC d')).heap[w2.heap.size + 1]? = some (.cells #[.slice ao L.length cap] 41 (0, 0)) := blk_kp (blk_alloc hz4 _) hd6.2 (by omega)
    have hk46 : Below w4.heap.size w4 ((w4.alloc (.cells (docC dz) 30)).setRow w4.heap.size (docC d')) := Below.trans ((Below.refl _ _).alloc (Nat.le_refl _) _) (hd6.2.toBelow (by simp) (fun i hi => by omega))
    have hB6 : Below w.heap.size w ((w4.alloc (.cells (docC dz) 30)).setRow w4.heap.size (docC d')) := hB4.trans (hk46.mono hB4.size)
    have hg6 := hg4.below hk46
    have hdo6 : DocOwn ((w4.alloc (.cells (docC dz) 30)).setRow w4.heap.size (docC d')) w3.heap.size d' p := hdo.below hk46
    have hkd : d'.kind = p.kind := by obtain ⟨fa, fc, e, -⟩ := hdo; rw [e]; rfl
    have c0 : ((w4.alloc (.cells (docC dz) 30)).setRow w4.heap.size (docC d')).cell? ⟨w4.heap.size, 0, none⟩ = some (.int .i64 d'.kind) := cell_of_blk hd6.1 0 (v := .int .i64 d'.kind) rfl
    rw [hkd] at c0
    obtain ⟨w5, hw5⟩ : ∃ w5, w5 = (w4.alloc (.cells (docC dz) 30)) := ⟨_, rfl⟩
    have c0x : (w5.setRow w4.heap.size (docC d')).cell? ⟨w4.heap.size, 0, none⟩ = some (.int .i64 p.kind) := by rw [hw5]; exact c0
    simp only [docC, dz, sz] at hw5
    rw [hw5] at c0x
    clear c0 hw5 w5
    have HD5 := Lib.hid hd5
    have HD6 := Lib.hid (show DocAt ((w4.alloc (.cells (docC dz) 30)).setRow w4.heap.size (docC d')) w4.heap.size d' from hd6.1)
    have HO6 := Lib.hid ho6
    have HY6 := Lib.hid hy6
    have HZ6 := Lib.hid hz6
    have HB6 := Lib.hid hB6
    have HG6 := Lib.hid hg6
    have HW6 := Lib.hid hdo6
    have hw3 : w.heap.size ≤ w3.heap.size := HB3.out.size
    have hw3s : w.heap.size < w3.heap.size := (Array.getElem?_eq_some_iff.1 HO3.out).1
    clear hb4 ho4 hy4 hz4 hg4 hB4 hd5 hd6 ho6 hy6 hz6 hk46 hB6 hg6 hdo hdo6 HDec HO3 HB3 HY3 HZ3 HG3 hkd
    by_cases hde : de = 0
    · have hdb : (de != 0) = false := by rw [hde]; rfl
      have hoe := HoE1.out
      rw [if_neg (by rw [hde]; decide)] at hoe
      have HoE2 := Lib.hid hoe
      clear hoe HoE1 hde
      by_cases hk : p.kind = k
      · have hkb : (p.kind != k) = false := by rw [hk]; simp
        have hoe := HoE2.out
        rw [if_neg (fun h => h hk)] at hoe
        have HoE3 := Lib.hid hoe
        clear hoe HoE2
        go_wp2_with (first | refine wpList_docst rfl _ _ rfl w4.heap.size dz d' rfl rfl HD5.out ?_ | fail)
        change Calls Tryz.prog 68 _ ((w4.alloc (.cells (docC dz) 30)).setRow w4.heap.size (docC d')) _
        generalize ((w4.alloc (.cells (docC dz) 30)).setRow w4.heap.size (docC d')) = w6 at HD6 HO6 HY6 HZ6 HB6 HG6 HW6 c0x ⊢
        clear c0x HD5
        have hcy := cell_of_blk HY6.out 0 rfl
        have hcz := cell_of_blk HZ6.out 0 rfl
        refine (setcon_any 69 #[.pointer (some ⟨w2.heap.size, 0, none⟩), .pointer (some ⟨w2.heap.size + 1, 0, none⟩)] (fun args w => by kernel_rfl) (fun x => !enoughB x.2 body L) ad l c w6 (HLs.out.below HB6.out) (by omega)
          (fun W x hx hW => openf_any x w2.heap.size (w2.heap.size + 1) body ao L cap W ((HLs.out.mem x hx).1.below (HB6.out.trans (hW.mono HB6.out.size))) (HLs.out.mem x hx).2 (HG6.out.below hW) (by omega) hbs ((hW.cell (cell_lt hcy)).trans hcy) ((hW.cell (cell_lt hcz)).trans hcz))).mono ?_
        rintro e w7 ⟨rfl, hb7⟩
        have HO7 : Hid (DocAt w7 w.heap.size dz) := Lib.hid (blk_later HO6.out hb7)
        have hy7 := blk_later HY6.out hb7
        have HB7 := Lib.hid (HB6.out.trans (hb7.mono HB6.out.size))
        have HD7 : Hid (DocAt w7 w4.heap.size d') := Lib.hid (blk_later HD6.out hb7)
        have HW7 := Lib.hid (HW6.out.below hb7)
        have hoe := HoE3.out
        clear hb7 hcy hcz HO6 HY6 HZ6 HB6 HD6 HG6 HW6 HoE3
        cases hany : l.any (fun x => !enoughB x.2 body L) with
        | true =>
          rw [hany, if_pos rfl] at hoe
          have hod := HoD.out
          have hob := HoB.out
          rw [hoe, if_neg (by decide)] at hod hob
          have HoE4 := Lib.hid hoe
          have HoD1 := Lib.hid hod
          have HoB1 := Lib.hid hob
          have HZ := Lib.hid (doc_setRow HO7.out dz)
          clear hoe hod hob HoD HoB hy7 hany
          go_wp2_with (first | refine wpList_docst rfl _ _ rfl w.heap.size dz dz rfl rfl HO7.out ?_ | fail)
          exact open_bad _ w _ w.heap.size 9 HZ.out.1 (HB7.out.trans (HZ.out.2.toBelow HB7.out.size (fun i hi => by omega))) HoE4.out HoD1.out HoB1.out rfl rfl rfl rfl rfl
        | false =>
          rw [hany, if_neg (by decide)] at hoe
          have hod := HoD.out
          have hob := HoB.out
          rw [hoe, if_pos rfl] at hod hob
          have HoE4 := Lib.hid hoe
          have HoD1 := Lib.hid hod
          have HoB1 := Lib.hid hob
          have y0 := cell_of_blk hy7 0 (v := .string body) rfl
          have HO8 : Hid (DocAt w7.drew w.heap.size dz) := Lib.hid HO7.out
          have HD8 : Hid (DocAt w7.drew w4.heap.size d') := Lib.hid HD7.out
          have HB8 : Hid (Below w.heap.size w w7.drew) := Lib.hid (HB7.out.trans (Below.mono (below_drew (Below.refl _ _)) HB7.out.size))
          have y0' : w7.drew.cell? ⟨w2.heap.size, 0, none⟩ = some (.string body) := y0
          have y1 : (w7.drew.setRow w.heap.size (docC d')).cell? ⟨w2.heap.size, 0, none⟩ = some (.string body) := (cell_setRow_other w7.drew w.heap.size (docC d') _ hn2).trans y0'
          have HZ := Lib.hid (doc_setRow HO8.out d')
          have HD9 : Hid (DocAt (w7.drew.setRow w.heap.size (docC d')) w4.heap.size d') := Lib.hid (blk_kp HD8.out HZ.out.2 (by omega))
          clear hoe hod hob HoD HoB hy7 hany
          go_wp2_with fail
          refine wp_region_held_drew (S := fun W => DocAt W w4.heap.size d' ∧ W.cell? ⟨w2.heap.size, 0, none⟩ = some (.string body)) (by kernel_rfl) ⟨HD8.out, y0'⟩ (fun hHeld => ?_)
          refine wpAnyH_take (i := 0) (v := .agg (docC d')) rfl (by kernel_rfl) (by kernel_rfl) (by kernel_rfl) (fun _ _ _ h => h) (Or.inl ⟨by rfl, ?_⟩) hHeld ?_
          · intro W hW
            have hl : (loadVar 30 ⟨w4.heap.size, 0, none⟩).run Tryz.prog W = .ok (.agg (docC d')) W := run_loadVar_row W _ _ _ (docC d') (0, 0) _ hW.1 docU rfl (docI d')
            have hl2 : (Instr.loadAt 30 (.pointer (some ⟨w4.heap.size, 0, none⟩))).run Tryz.prog W = .ok (.agg (docC d')) W := by
              simp only [Instr.loadAt, Instr.sureAddr, Sem.run_bind, Sem.run_pure, Result.andThen_ok, hl]
            simp only [List.getElem_toArray, List.getElem_cons_zero]
            unfold execOp
            show (Sem.run Tryz.prog (do let v ← Instr.loadAt 30 (.pointer (some ⟨w4.heap.size, 0, none⟩)); pure (Next.value v)) W) = _
            simp only [Sem.run_bind, hl2, Result.andThen_ok, Sem.run_pure]
          try simp only [List.getElem_toArray, List.getElem_cons_zero, List.getElem_cons_succ, Act.put, List.setIfInBounds_toArray, List.set_cons_zero, List.set_cons_succ]
          refine wpAnyH_take (i := 1) (v := .string body) rfl (by kernel_rfl) (by kernel_rfl) (by kernel_rfl) (fun _ _ _ h => h) (Or.inl ⟨by rfl, ?_⟩) hHeld ?_
          · intro W hW
            have hl := hW.2
            go_simp
          try simp only [List.getElem_toArray, List.getElem_cons_zero, List.getElem_cons_succ, Act.put, List.setIfInBounds_toArray, List.set_cons_zero, List.set_cons_succ]
          refine wpAnyH_ready (rs := [2]) (by kernel_rfl) (by simp) ?_
          refine AllReadyH.cons rfl (fun K hK => ?_) AllReadyH.nil
          refine step_docst (by rfl) _ _ (by rfl) w.heap.size dz d' (by rfl) (by rfl) HO8.out ?_
          refine hK.out _ _ ⟨HD9.out, y1⟩ (fun hHeld2 => ?_)
          clear hK K hHeld
          try simp only [List.getElem_toArray, List.getElem_cons_zero, List.getElem_cons_succ, Act.put, List.setIfInBounds_toArray, List.set_cons_zero, List.set_cons_succ]
          refine wpAnyH_take (i := 3) (v := ?_) rfl (by kernel_rfl) (by kernel_rfl) (by kernel_rfl) (fun _ _ _ h => h) (Or.inl ⟨by rfl, ?_⟩) hHeld2 ?_
          rotate_left
          · (intro wq hSw; go_simp; try with_reducible rfl)
          try simp only [List.getElem_toArray, List.getElem_cons_zero, List.getElem_cons_succ, Act.put, List.setIfInBounds_toArray, List.set_cons_zero, List.set_cons_succ]
          refine wpAnyH_take (i := 4) (v := ?_) rfl (by kernel_rfl) (by kernel_rfl) (by kernel_rfl) (fun _ _ _ h => h) (Or.inl ⟨by rfl, ?_⟩) hHeld2 ?_
          rotate_left
          · (intro wq hSw; go_simp; try with_reducible rfl)
          try simp only [List.getElem_toArray, List.getElem_cons_zero, List.getElem_cons_succ, Act.put, List.setIfInBounds_toArray, List.set_cons_zero, List.set_cons_succ]
          refine wpAnyH_done (by kernel_rfl) ?_ _
          go_wp2_with fail
          have hkz := HZ.out.2
          have hdo9 : DocOwn (w7.drew.setRow w.heap.size (docC d')) w.heap.size d' p := (((HW7.out.below ⟨rfl, rfl, rfl, Nat.le_refl _, fun _ _ => rfl⟩ : DocOwn w7.drew w3.heap.size d' p).kp hkz (fun g hg e => by have e2 : g = w.heap.size := e; omega))).base hw3
          refine doc_ret3 _ _ w.heap.size d' body 0 HZ.out.1 rfl rfl rfl rfl rfl ?_
          rw [HoE4.out, HoD1.out, HoB1.out]
          exact ⟨d', rfl, hdo9, HB8.out.trans (HZ.out.2.toBelow HB8.out.size (fun i hi => by omega))⟩
      · have hkb : (p.kind != k) = true := bne_iff_ne.2 hk
        have hoe := HoE2.out
        rw [if_pos hk] at hoe
        have hod := HoD.out
        have hob := HoB.out
        rw [hoe, if_neg (by decide)] at hod hob
        have HoE3 := Lib.hid hoe
        have HoD1 := Lib.hid hod
        have HoB1 := Lib.hid hob
        have HZ := Lib.hid (doc_setRow HO6.out dz)
        clear hoe hod hob HoE2 HoD HoB hk
        go_wp2_with (first | refine wpList_docst rfl _ _ rfl w4.heap.size dz d' rfl rfl HD5.out ?_ | refine wpList_docst rfl _ _ rfl w.heap.size dz dz rfl rfl HO6.out ?_ | fail)
        exact open_bad _ w _ w.heap.size 1 HZ.out.1 (HB6.out.trans (HZ.out.2.toBelow HB6.out.size (fun i hi => by omega))) HoE3.out HoD1.out HoB1.out rfl rfl rfl rfl rfl
    · have hdb : (de != 0) = true := bne_iff_ne.2 hde
      have hoe := HoE1.out
      rw [if_pos hde] at hoe
      have hod := HoD.out
      have hob := HoB.out
      rw [hoe, if_neg hde] at hod hob
      have HoE2 := Lib.hid hoe
      have HoD1 := Lib.hid hod
      have HoB1 := Lib.hid hob
      have HZ := Lib.hid (doc_setRow HO6.out dz)
      clear hoe hod hob HoE1 HoD HoB hde
      go_wp2_with (first | refine wpList_docst rfl _ _ rfl w4.heap.size dz d' rfl rfl HD5.out ?_ | refine wpList_docst rfl _ _ rfl w.heap.size dz dz rfl rfl HO6.out ?_ | fail)
      exact open_bad _ w _ w.heap.size de HZ.out.1 (HB6.out.trans (HZ.out.2.toBelow HB6.out.size (fun i hi => by omega))) HoE2.out HoD1.out HoB1.out rfl rfl rfl rfl rfl
  · have hub : (ue != 0) = true := bne_iff_ne.2 hu
    have hoe := HoE.out
    rw [if_pos hu] at hoe
    have hod := HoD.out
    have hob := HoB.out
    rw [hoe, if_neg hu] at hod hob
    have HoE1 := Lib.hid hoe
    have HoD1 := Lib.hid hod
    have HoB1 := Lib.hid hob
    have HZ := Lib.hid (doc_setRow HO3.out dz)
    clear hoe hod hob HoE HoD HoB hu
    go_wp2_with (first | refine wpList_docst rfl _ _ rfl w.heap.size dz dz rfl rfl HO3.out ?_ | fail)
    exact open_bad _ w _ w.heap.size ue HZ.out.1 (HB3.out.trans (HZ.out.2.toBelow HB3.out.size (fun i hi => by omega))) HoE1.out HoD1.out HoB1.out rfl rfl rfl rfl rfl

/-! ### the document's answer: a sealed document, opened for sets -/
structure RoW (w : World) (db base : Nat) (d : DV) (p : PD) (ao : Option Addr) (L : List SigT) (wr : World) : Prop where
  res : DocAt wr w.heap.size dz
  doc : DocAt wr db d
  own : DocOwn wr base d p
  sigs : SigsM wr ao L
  below : Below w.heap.size w wr
theorem RoW.later {w : World} {db base : Nat} {d : DV} {p : PD} {ao : Option Addr} {L : List SigT} {wr w' : World} (h : RoW w db base d p ao L wr) (k : Below wr.heap.size wr w') : RoW w db base d p ao L w' :=
  ⟨h.res.later k, h.doc.later k, h.own.below k, h.sigs.below k, h.below.trans (k.mono h.below.size)⟩
def RopRel (l : List SetV) (body : ByteArray) (L : List SigT) (w : World) (db base : Nat) (d : DV) (p : PD) (ao : Option Addr) (i : Value) (wr : World) : Prop :=
  ∃ j : Nat, j ≤ l.length ∧ i = .int .i64 j ∧ (l.take j).any (fun x => !enoughB x.2 body L) = false ∧ RoW w db base d p ao L wr

set_option maxRecDepth 100000 in
set_option maxHeartbeats 4000000 in
theorem ropen_any (s : ByteArray) (k : Int) (ad : Option Addr) (l : List SetV) (c : Nat) (w : World) (hs : s.size ≤ 1000000000) (hV : VarsP w) (hl : SetsA w ad l) (hn : l.length ≤ 1000000) (hbs : (usP s).1.1.size ≤ 100000000) :
    Calls Tryz.prog 24 #[.string s, .int .i64 k, .slice ad l.length c] w (OpenPost (openE s k l) (openD s k l) (openB s k l) w) := by
  obtain ⟨w1, hw1⟩ : ∃ w1, w1 = w.alloc (.cells (docC dz) 30) := ⟨_, rfl⟩
  have ho1 : DocAt w1 w.heap.size dz := by rw [hw1]; exact blk_new _ _
  have hb1 : Below w.heap.size w w1 := by rw [hw1]; exact (Below.refl _ w).alloc (Nat.le_refl _) _
  have HO1 := Lib.hid ho1
  have HB1 := Lib.hid hb1
  have HV := Lib.hid hV
  have HLs := Lib.hid hl
  have HU := runseal_any s w1 hs
  have hus := usP_short s
  unfold UsPost at HU
  have hE : ∀ x, openE s k l = x → openE s k l = x := fun _ h => h
  have hD : openD s k l = if openE s k l = 0 then (decD (usP s).1.1).1 else pz := rfl
  have hB : openB s k l = if openE s k l = 0 then (usP s).1.1 else ⟨#[]⟩ := rfl
  generalize openD s k l = oD at hD ⊢
  generalize openB s k l = oB at hB ⊢
  obtain ⟨oE, hoE⟩ : ∃ oE, oE = openE s k l := ⟨_, rfl⟩
  rw [← hoE] at hD hB ⊢
  unfold openE at hoE
  generalize usP s = U at HU hD hB hoE hbs hus
  obtain ⟨⟨body, L⟩, ue⟩ := U
  dsimp only at HU hD hB hoE hbs hus
  have HUs := Lib.hid HU
  have hdc := fun W hW => rdecode_all body W (by omega) hW
  unfold DecAll at hdc
  generalize decD body = Dd at hdc hD hB hoE
  obtain ⟨p, de⟩ := Dd
  dsimp only at hdc hD hB hoE
  have HDec := Lib.hid hdc
  have HoE := Lib.hid hoE
  have HoD := Lib.hid hD
  have HoB := Lib.hid hB
  simp only [docC, dz, sz] at hw1
  clear ho1 hb1 HU hdc hoE hD hB hE hV hl
  go_enter Tryz.func24, Tryz.ntmps24
  go_wp2_with fail
  rw [← hw1]
  clear hw1
  refine HUs.out.mono ?_
  rintro e w2 ⟨v, rfl, hown, hb2⟩
  have HO2 := Lib.hid (HO1.out.later hb2)
  have HB2 := Lib.hid (HB1.out.trans (hb2.mono HB1.out.size))
  obtain ⟨ao, cap, rfl, hSg⟩ := OwnG.sigs hown
  have HSg := Lib.hid hSg
  have hn2 : w2.heap.size ≠ w.heap.size := by have := (Array.getElem?_eq_some_iff.1 HO2.out).1; omega
  have hn2s : w.heap.size < w2.heap.size := (Array.getElem?_eq_some_iff.1 HO2.out).1
  have HB3 := Lib.hid HB2.out
  clear hb2 HUs HO1 HB1 hown hSg HB2
  by_cases hu : ue = 0
  · have hub : (ue != 0) = false := by rw [hu]; rfl
    have hoe := HoE.out
    rw [if_neg (by rw [hu]; decide)] at hoe
    have HoE1 := Lib.hid hoe
    clear hoe HoE hu
    go_wp2_with fail
    refine (HDec.out w2 (HV.out.below HB3.out)).mono ?_
    rintro e w4 ⟨d', rfl, hdo, hb4⟩
    have ho4 := HO2.out.later hb4
    have hg4 := HSg.out.below hb4
    have hB4 := HB3.out.trans (hb4.mono HB3.out.size)
    have hlt4 : w.heap.size < w4.heap.size := (Array.getElem?_eq_some_iff.1 ho4).1
    have hd5 : DocAt (w4.alloc (.cells (docC dz) 30)) w4.heap.size dz := blk_new _ _
    have hd6 := doc_setRow hd5 d'
    have ho6 : DocAt ((w4.alloc (.cells (docC dz) 30)).setRow w4.heap.size (docC d')) w.heap.size dz := blk_kp (blk_alloc ho4 _) hd6.2 (by omega)
    have hk46 : Below w4.heap.size w4 ((w4.alloc (.cells (docC dz) 30)).setRow w4.heap.size (docC d')) := Below.trans ((Below.refl _ _).alloc (Nat.le_refl _) _) (hd6.2.toBelow (by simp) (fun i hi => by omega))
    have hB6 : Below w.heap.size w ((w4.alloc (.cells (docC dz) 30)).setRow w4.heap.size (docC d')) := hB4.trans (hk46.mono hB4.size)
    have hg6 := hg4.below hk46
    have hdo6 : DocOwn ((w4.alloc (.cells (docC dz) 30)).setRow w4.heap.size (docC d')) w2.heap.size d' p := hdo.below hk46
    have hkd : d'.kind = p.kind := by obtain ⟨fa, fc, e, -⟩ := hdo; rw [e]; rfl
    have c0 : ((w4.alloc (.cells (docC dz) 30)).setRow w4.heap.size (docC d')).cell? ⟨w4.heap.size, 0, none⟩ = some (.int .i64 d'.kind) := cell_of_blk hd6.1 0 (v := .int .i64 d'.kind) rfl
    rw [hkd] at c0
    obtain ⟨w5, hw5⟩ : ∃ w5, w5 = (w4.alloc (.cells (docC dz) 30)) := ⟨_, rfl⟩
    have c0x : (w5.setRow w4.heap.size (docC d')).cell? ⟨w4.heap.size, 0, none⟩ = some (.int .i64 p.kind) := by rw [hw5]; exact c0
    simp only [docC, dz, sz] at hw5
    rw [hw5] at c0x
    clear c0 hw5 w5
    have HD5 := Lib.hid hd5
    have HO6 := Lib.hid ho6
    have HB6 := Lib.hid hB6
    have HR6 := Lib.hid (⟨ho6, hd6.1, hdo6, hg6, hB6⟩ : RoW w w4.heap.size w2.heap.size d' p ao L ((w4.alloc (.cells (docC dz) 30)).setRow w4.heap.size (docC d')))
    have hw3 : w.heap.size ≤ w2.heap.size := HB3.out.size
    clear hb4 ho4 hg4 hB4 hd5 hd6 ho6 hk46 hB6 hg6 hdo hdo6 HDec HO2 HB3 HSg hkd
    by_cases hde : de = 0
    · have hdb : (de != 0) = false := by rw [hde]; rfl
      have hoe := HoE1.out
      rw [if_neg (by rw [hde]; decide)] at hoe
      have HoE2 := Lib.hid hoe
      clear hoe HoE1 hde
      by_cases hk : p.kind = k
      · have hkb : (p.kind != k) = false := by rw [hk]; simp
        have hoe := HoE2.out
        rw [if_neg (fun h => h hk)] at hoe
        have HoE3 := Lib.hid hoe
        clear hoe HoE2
        go_wp2_with (first | refine wpList_docst rfl _ _ rfl w4.heap.size dz d' rfl rfl HD5.out ?_ | fail)
        go_loopw [13] (fun i wr => RopRel l body L w w4.heap.size w2.heap.size d' p ao i wr) (fun i _ => l.length - (intOf i).toNat)
        case atStart => exact ⟨0, Nat.zero_le _, rfl, rfl, HR6.out⟩
        case round =>
          obtain ⟨j, hj, rfl, hall, hR⟩ := hrel
          have HR := Lib.hid hR
          have HAl := Lib.hid hall
          clear hR hall HR6 HO6 HB6 HD5 c0x
          by_cases hlt : j < l.length
          · obtain ⟨pb, po, rfl, z0, z1, hSx, hmx⟩ := (HLs.out.below HR.out.below) j l[j] (List.getElem?_eq_getElem hlt)
            have htk : l.take (j + 1) = l.take j ++ [l[j]] := List.take_succ_eq_append_getElem hlt
            have hmem : l[j] ∈ l := List.getElem_mem hlt
            generalize l[j] = x at z0 z1 hSx hmx htk hmem
            have hen := renough_any x.1 x.2 body ao L cap wr hSx hmx HR.out.sigs (by omega) hbs
            have hstep : (l.take (j + 1)).any (fun x => !enoughB x.2 body L) = !enoughB x.2 body L := by
              rw [htk, List.any_append, HAl.out, Bool.false_or, List.any_cons, List.any_nil, Bool.or_false]
            have hbad : enoughB x.2 body L = false → l.any (fun x => !enoughB x.2 body L) = true := fun h => List.any_eq_true.2 ⟨x, hmem, by rw [h]; rfl⟩
            have HBad := Lib.hid hbad
            have HSt := Lib.hid hstep
            have hj0 : (0 : Int) ≤ (j : Int) := by omega
            have hj1 : (j : Int) < (l.length : Int) := by omega
            generalize enoughB x.2 body L = en at hen HBad HSt
            have HEn := Lib.hid hen
            obtain ⟨sv, S⟩ := x
            dsimp only at z0 z1 HEn
            clear hen hstep hbad htk hmem hSx
            go_wp2_with fail
            refine HEn.out.mono ?_
            rintro e w7 ⟨rfl, hb7⟩
            have HR7 := Lib.hid (HR.out.later hb7)
            clear hb7 HEn HR z0 z1
            cases en with
            | true =>
              have hst := HSt.out
              have HSt2 : Hid ((l.take (j + 1)).any (fun x => !enoughB x.2 body L) = false) := Lib.hid hst
              clear hst HSt
              go_wp2_with fail
              refine ⟨⟨j + 1, hlt, rfl, HSt2.out, HR7.out⟩, ?_⟩
              show l.length - ((j : Int) + 1).toNat < l.length - (j : Int).toNat
              omega
            | false =>
              have hoe := HoE3.out
              rw [HBad.out rfl, if_pos rfl] at hoe
              have hod := HoD.out
              have hob := HoB.out
              rw [hoe, if_neg (by decide)] at hod hob
              have HoE4 := Lib.hid hoe
              have HoD1 := Lib.hid hod
              have HoB1 := Lib.hid hob
              have HZ := Lib.hid (doc_setRow HR7.out.res dz)
              clear hoe hod hob HoD HoB HoE3
              go_wp2_with (first | refine wpList_docst rfl _ _ rfl w.heap.size dz dz rfl rfl HR7.out.res ?_ | fail)
              exact open_bad _ w _ w.heap.size 9 HZ.out.1 (HR7.out.below.trans (HZ.out.2.toBelow HR7.out.below.size (fun i hi => by omega))) HoE4.out HoD1.out HoB1.out rfl rfl rfl rfl rfl
          · obtain rfl : j = l.length := by omega
            have hany := HAl.out
            rw [List.take_length] at hany
            have hoe := HoE3.out
            rw [hany, if_neg (by decide)] at hoe
            have hod := HoD.out
            have hob := HoB.out
            rw [hoe, if_pos rfl] at hod hob
            have HoE4 := Lib.hid hoe
            have HoD1 := Lib.hid hod
            have HoB1 := Lib.hid hob
            have HZ := Lib.hid (doc_setRow HR.out.res d')
            clear hoe hod hob HoD HoB HoE3 hany HAl
            go_wp2_with (first | refine wpList_doc rfl _ rfl w4.heap.size d' rfl HR.out.doc ?_ | refine wpList_docst rfl _ _ rfl w.heap.size dz d' rfl rfl HR.out.res ?_ | fail)
            have hdo9 : DocOwn (wr.setRow w.heap.size (docC d')) w.heap.size d' p := (HR.out.own.kp HZ.out.2 (fun g hg e => by have e2 : g = w.heap.size := e; omega)).base hw3
            refine doc_ret3 _ _ w.heap.size d' body 0 HZ.out.1 rfl rfl rfl rfl rfl ?_
            rw [HoE4.out, HoD1.out, HoB1.out]
            exact ⟨d', rfl, hdo9, HR.out.below.trans (HZ.out.2.toBelow HR.out.below.size (fun i hi => by omega))⟩
      · have hkb : (p.kind != k) = true := bne_iff_ne.2 hk
        have hoe := HoE2.out
        rw [if_pos hk] at hoe
        have hod := HoD.out
        have hob := HoB.out
        rw [hoe, if_neg (by decide)] at hod hob
        have HoE3 := Lib.hid hoe
        have HoD1 := Lib.hid hod
        have HoB1 := Lib.hid hob
        have HZ := Lib.hid (doc_setRow HO6.out dz)
        clear hoe hod hob HoE2 HoD HoB hk
        go_wp2_with (first | refine wpList_docst rfl _ _ rfl w4.heap.size dz d' rfl rfl HD5.out ?_ | refine wpList_docst rfl _ _ rfl w.heap.size dz dz rfl rfl HO6.out ?_ | fail)
        exact open_bad _ w _ w.heap.size 1 HZ.out.1 (HB6.out.trans (HZ.out.2.toBelow HB6.out.size (fun i hi => by omega))) HoE3.out HoD1.out HoB1.out rfl rfl rfl rfl rfl
    · have hdb : (de != 0) = true := bne_iff_ne.2 hde
      have hoe := HoE1.out
      rw [if_pos hde] at hoe
      have hod := HoD.out
      have hob := HoB.out
      rw [hoe, if_neg hde] at hod hob
      have HoE2 := Lib.hid hoe
      have HoD1 := Lib.hid hod
      have HoB1 := Lib.hid hob
      have HZ := Lib.hid (doc_setRow HO6.out dz)
      clear hoe hod hob HoE1 HoD HoB hde
      go_wp2_with (first | refine wpList_docst rfl _ _ rfl w4.heap.size dz d' rfl rfl HD5.out ?_ | refine wpList_docst rfl _ _ rfl w.heap.size dz dz rfl rfl HO6.out ?_ | fail)
      exact open_bad _ w _ w.heap.size de HZ.out.1 (HB6.out.trans (HZ.out.2.toBelow HB6.out.size (fun i hi => by omega))) HoE2.out HoD1.out HoB1.out rfl rfl rfl rfl rfl
  · have hub : (ue != 0) = true := bne_iff_ne.2 hu
    have hoe := HoE.out
    rw [if_pos hu] at hoe
    have hod := HoD.out
    have hob := HoB.out
    rw [hoe, if_neg hu] at hod hob
    have HoE1 := Lib.hid hoe
    have HoD1 := Lib.hid hod
    have HoB1 := Lib.hid hob
    have HZ := Lib.hid (doc_setRow HO2.out dz)
    clear hoe hod hob HoE HoD HoB hu
    go_wp2_with (first | refine wpList_docst rfl _ _ rfl w.heap.size dz dz rfl rfl HO2.out ?_ | fail)
    exact open_bad _ w _ w.heap.size ue HZ.out.1 (HB3.out.trans (HZ.out.2.toBelow HB3.out.size (fun i hi => by omega))) HoE1.out HoD1.out HoB1.out rfl rfl rfl rfl rfl

/-! ### sealed bytes with one more are none -/
theorem us_more {body : ByteArray} {L : List SigT} (h : (sealP body L).2 = 0) : usP ((sealP body L).1 ++ ⟨#[120]⟩) = ((⟨#[]⟩, []), 3) := by
  unfold sealP at h ⊢
  by_cases hc : 65535 < body.size ∨ 16 < L.length ∨ L.any longS = true
  · rw [if_pos hc] at h
    cases h
  · rw [if_neg hc] at h ⊢
    obtain ⟨h1, h2⟩ := wOut_ok h
    rw [h2]
    clear h h2
    have h16 : ¬ 16 < L.length := fun h => hc (.inr (.inl h))
    have hany : ∀ x ∈ L, x.2.size ≤ 1024 := by
      intro x hx
      rcases Nat.lt_or_ge 1024 x.2.size with hl | hl
      · exact absurd (.inr (.inr (List.any_eq_true.2 ⟨x, hx, decide_eq_true hl⟩))) hc
      · exact hl
    obtain ⟨g1, g2, g3⟩ := foldP_good L (q := wNum (pText (⟨#[]⟩, false) body) L.length 1) h1
    obtain ⟨k1, k2, k3⟩ := wNum_good g1
    obtain ⟨m1, m2, m3⟩ := pText_good k1
    have e : (laySigsP (pText (⟨#[]⟩, false) body) L).1 ++ ⟨#[120]⟩ = numB body.size 2 ++ (body ++ (numB L.length 1 ++ (sigsB L ++ ⟨#[120]⟩))) := by
      show (L.foldl layP _).1 ++ _ = _
      rw [g3, k3, m3]
      dsimp only
      rw [show (⟨#[]⟩ : ByteArray) ++ numB body.size 2 = numB body.size 2 from ByteArray.empty_append]
      simp only [ba_assoc]
    rw [e]
    have a1 : usA (numB body.size 2 ++ (body ++ (numB L.length 1 ++ (sigsB L ++ ⟨#[120]⟩)))) = (body, (numB L.length 1 ++ (sigsB L ++ ⟨#[120]⟩), 0)) := rTxt_app body _ 65535 (by omega) m2
    have a2 := rNum_app L.length 1 (sigsB L ++ ⟨#[120]⟩) k2 (by decide) (by omega)
    have a2' : rNum (numB L.length 1 ++ (sigsB L ++ ⟨#[120]⟩), 0) 1 = ((L.length : Int), (sigsB L ++ ⟨#[120]⟩, 0)) := a2
    have a3 := takeN_back L ⟨#[120]⟩ (fun x hx => ⟨(g2 x hx).1, hany x hx⟩)
    have a4 : usT (numB body.size 2 ++ (body ++ (numB L.length 1 ++ (sigsB L ++ ⟨#[120]⟩)))) = (L, (⟨#[120]⟩, 0)) := by
      unfold usT
      rw [a1]
      unfold takeP
      dsimp only
      rw [a2']
      dsimp only
      rw [Int.toNat_natCast, a3]
      rfl
    unfold usP
    rw [a4]
    rw [if_pos (.inl (show (rEnd ((⟨#[120]⟩ : ByteArray), (0 : Int))).2 ≠ 0 by decide))]
theorem seal_none {body : ByteArray} {L : List SigT} (h : (sealP body L).2 ≠ 0) : (sealP body L).1 = ⟨#[]⟩ := by
  unfold sealP at h ⊢
  split at h
  · rename_i hc; rw [if_pos hc]
  · rename_i hc
    rw [if_neg hc]
    unfold wOut at h ⊢
    split at h
    · rename_i hq; rw [if_pos hq]
    · exact absurd rfl h
theorem us_x : usP ⟨#[120]⟩ = ((⟨#[]⟩, []), 3) := by decide +kernel
theorem us_seal_x (body : ByteArray) (L : List SigT) : usP ((sealP body L).1 ++ ⟨#[120]⟩) = ((⟨#[]⟩, []), 3) := by
  by_cases h : (sealP body L).2 = 0
  · exact us_more h
  · rw [seal_none h, show (⟨#[]⟩ : ByteArray) ++ ⟨#[120]⟩ = ⟨#[120]⟩ from ByteArray.empty_append]
    exact us_x
theorem openE_x (body : ByteArray) (L : List SigT) (k : Int) (l : List SetV) : openE ((sealP body L).1 ++ ⟨#[120]⟩) k l = 3 ∧ openD ((sealP body L).1 ++ ⟨#[120]⟩) k l = pz ∧ openB ((sealP body L).1 ++ ⟨#[120]⟩) k l = ⟨#[]⟩ := by
  have h : openE ((sealP body L).1 ++ ⟨#[120]⟩) k l = 3 := by
    unfold openE
    rw [us_seal_x]
    rfl
  refine ⟨h, ?_, ?_⟩
  · unfold openD; rw [h]; rfl
  · unfold openB; rw [h]; rfl
theorem usP_body (s : ByteArray) : (usP s).1.1.size ≤ s.size := by
  unfold usP
  split
  · exact Nat.zero_le _
  · show (usA s).1.size ≤ s.size
    unfold usA rTxt
    split
    · exact Nat.zero_le _
    · have h1 := (rRaw_size (rTxt2 (s, 0) 65535) (rNum (s, 0) 2).1).1
      have h2 := (rRaw_size (s, 0) 2).2
      refine Nat.le_trans h1 ?_
      unfold rTxt2 rFail
      split
      · split
        · exact h2
        · exact h2
      · exact h2

/-! ### the memory of the law of opening -/
theorem own_kind {α : Type} {e : TypeId} {size : Nat} {mk : α → List Value} {w : World} {base : Nat} {v : Value} {l : List α} (h : OwnL e size mk w base v l) : ∀ g, v.ownBlock = some g → base ≤ g ∧ ∃ cs fz, w.heap[g]? = some (.cells cs e fz) := by
  intro g hg
  rcases h.2 with ⟨rfl, _⟩ | ⟨g', cap, cur, rfl, hb, hh, _⟩
  · cases hg
  · cases hg
    exact ⟨hb, _, _, hh⟩
/-- a byte slice that stands somewhere. -/
def BytM (w : World) (ad : Option Addr) (n : Nat) : Prop := ∀ k, k < n → ∃ pb po, ad = some ⟨pb, po, none⟩ ∧ ∃ b : Nat, b < 256 ∧ w.cell? ⟨pb, po + k, none⟩ = some (.int .u8 b)
theorem BytM.below {w w' : World} {ad : Option Addr} {n : Nat} (h : BytM w ad n) (k : Below w.heap.size w w') : BytM w' ad n := by
  intro j hj
  obtain ⟨pb, po, e, b, hb, hc⟩ := h j hj
  exact ⟨pb, po, e, b, hb, (k.cell (cell_lt hc)).trans hc⟩
theorem KeyM.addId {B : Nat} {w w' : World} {kb : Nat} {seed pub : ByteArray} {nb : Nat} {ids : Value} {I : List ByteArray} (h : KeyM B w kb seed pub) (o : Obj) (ho : OwnS w nb ids I) (hB : ∀ g, ids.ownBlock = some g → g < B) (hg : (w.alloc o).grownBy w' ids.ownBlock) : KeyM B w' kb seed pub := by
  refine h.keep fun b cs T fz hb hT => ?_
  refine (hg.block b (by rw [size_alloc]; have := (Array.getElem?_eq_some_iff.1 hb).1; omega) (fun e => ?_)).trans ((blk_alloc hb o).trans hb.symm)
  obtain ⟨_, cs2, fz2, h2⟩ := own_kind ho b e.symm
  rw [hb] at h2
  have hT2 : T = 9 := by injection h2 with h2; injection h2
  rcases hT with h | h | ⟨h, hb2⟩
  · rw [hT2] at h; exact absurd h (by decide)
  · rw [hT2] at h; exact absurd h (by decide)
  · have := hB b e.symm; omega
theorem KeyM.addSg {B : Nat} {w w' : World} {kb : Nat} {seed pub : ByteArray} {nb : Nat} {sl : Value} {L : List SigT} (h : KeyM B w kb seed pub) (o : Obj) (ho : OwnG w nb sl L) (hg : (w.alloc o).grownBy w' sl.ownBlock) : KeyM B w' kb seed pub := by
  refine h.keep fun b cs T fz hb hT => ?_
  refine (hg.block b (by rw [size_alloc]; have := (Array.getElem?_eq_some_iff.1 hb).1; omega) (fun e => ?_)).trans ((blk_alloc hb o).trans hb.symm)
  obtain ⟨_, cs2, fz2, h2⟩ := own_kind ho b e.symm
  rw [hb] at h2
  have hT2 : T = 54 := by injection h2 with h2; injection h2
  rcases hT with h | h | ⟨h, -⟩ <;> (rw [hT2] at h; exact absurd h (by decide))
theorem sigsZ_small : ∀ L : List SigT, (∀ x ∈ L, x.1.size ≤ 1000 ∧ x.2.size ≤ 1000) → sigsZ L ≤ 2100 * L.length
  | [], _ => Nat.zero_le _
  | x :: L, h => by
    have h1 := h x List.mem_cons_self
    have h2 := sigsZ_small L (fun y hy => h y (List.mem_cons_of_mem _ hy))
    rw [List.length_cons]
    show x.1.size + x.2.size + 2 + sigsZ L ≤ _
    omega
structure MoW (w0 : World) (I : List ByteArray) (L : List SigT) (ids sl : Value) (w : World) : Prop where
  own : OwnS w w0.heap.size ids I
  sigs : OwnG w w0.heap.size sl L
  below : Below w0.heap.size w0 w
  small : ∀ x ∈ L, x.1.size ≤ 1000 ∧ x.2.size ≤ 1000
theorem MoW.later {w0 : World} {I : List ByteArray} {L : List SigT} {ids sl : Value} {w w' : World} (h : MoW w0 I L ids sl w) (k : Below w.heap.size w w') : MoW w0 I L ids sl w' :=
  ⟨OwnL.below h.own k, OwnL.below h.sigs k, h.below.trans (k.mono h.below.size), h.small⟩
theorem MoW.addId {w0 : World} {I : List ByteArray} {L : List SigT} {ids sl ids' : Value} {w w' : World} (h : MoW w0 I L ids sl w) (o : Obj) (x : ByteArray) (ho : OwnS w' w0.heap.size ids' (I ++ [x])) (hg : (w.alloc o).grownBy w' ids.ownBlock) : MoW w0 (I ++ [x]) L ids' sl w' := by
  have hk := own_kind h.own
  have hs := h.below.size
  refine ⟨ho, OwnL.of_block (OwnL.alloc h.sigs o) (fun g hg2 => ?_), ?_, h.small⟩
  · obtain ⟨_, cs, fz, h1⟩ := own_kind (OwnL.alloc h.sigs o) g hg2
    refine hg.block _ (Array.getElem?_eq_some_iff.1 h1).1 (fun e => ?_)
    obtain ⟨_, cs2, fz2, h2⟩ := own_kind (OwnL.alloc h.own o) g e.symm
    rw [h1] at h2
    have : 54 = 9 := by injection h2 with h2; injection h2
    exact absurd this (by decide)
  · exact (h.below.alloc hs o).grown hg (by rw [size_alloc]; omega) (fun g hg2 => (hk g hg2).1)
theorem MoW.addSig {w0 : World} {I : List ByteArray} {L : List SigT} {ids sl sl' : Value} {w w' : World} (h : MoW w0 I L ids sl w) (o : Obj) (y : SigT) (hy : y.1.size ≤ 1000 ∧ y.2.size ≤ 1000) (ho : OwnG w' w0.heap.size sl' (L ++ [y])) (hg : (w.alloc o).grownBy w' sl.ownBlock) : MoW w0 I (L ++ [y]) ids sl' w' := by
  have hk := own_kind h.sigs
  have hs := h.below.size
  refine ⟨OwnL.of_block (OwnL.alloc h.own o) (fun g hg2 => ?_), ho, ?_, fun x hx => ?_⟩
  · obtain ⟨_, cs, fz, h1⟩ := own_kind (OwnL.alloc h.own o) g hg2
    refine hg.block _ (Array.getElem?_eq_some_iff.1 h1).1 (fun e => ?_)
    obtain ⟨_, cs2, fz2, h2⟩ := own_kind (OwnL.alloc h.sigs o) g e.symm
    rw [h1] at h2
    have : 9 = 54 := by injection h2 with h2; injection h2
    exact absurd this (by decide)
  · exact (h.below.alloc hs o).grown hg (by rw [size_alloc]; omega) (fun g hg2 => (hk g hg2).1)
  · rcases List.mem_append.1 hx with hx | hx
    · exact h.small x hx
    · rcases List.mem_singleton.1 hx with rfl
      exact hy
def seedN (k : Nat) : ByteArray := ⟨#[UInt8.ofNat (97 + k)]⟩
theorem conv_seed0 (W : World) : (convert 21 9 (.int .i32 97)).run Tryz.prog W = .ok (.string ⟨#[97]⟩) W := by kernel_rfl
theorem conv_seed1 (W : World) : (convert 21 9 (.int .i32 98)).run Tryz.prog W = .ok (.string ⟨#[98]⟩) W := by kernel_rfl
theorem conv_seed2 (W : World) : (convert 21 9 (.int .i32 99)).run Tryz.prog W = .ok (.string ⟨#[99]⟩) W := by kernel_rfl
theorem conv_seed3 (W : World) : (convert 21 9 (.int .i32 100)).run Tryz.prog W = .ok (.string ⟨#[100]⟩) W := by kernel_rfl
theorem conv_seed (k : Nat) (hk : k < 4) (W : World) : (convert 21 9 (.int .i32 (97 + (k : Int)))).run Tryz.prog W = .ok (.string (seedN k)) W := by
  have h : k = 0 ∨ k = 1 ∨ k = 2 ∨ k = 3 := by omega
  rcases h with rfl | rfl | rfl | rfl
  · exact conv_seed0 W
  · exact conv_seed1 W
  · exact conv_seed2 W
  · exact conv_seed3 W
theorem OwnS.txs {w : World} {base : Nat} {v : Value} {L : List ByteArray} (h : OwnS w base v L) : ∃ ad cap, v = .slice ad L.length cap ∧ TxM w ad L := by
  obtain ⟨ao, cap, rfl, -, -, hne⟩ := OwnL.form h
  refine ⟨ao, cap, rfl, fun i t hi => ?_⟩
  have hlt := (List.getElem?_eq_some_iff.1 hi).1
  obtain ⟨g, rfl, -, -, hcl⟩ := hne (by omega)
  refine ⟨g, 0, rfl, ?_⟩
  rw [Nat.zero_add, hcl i (by omega), flat1, List.getElem?_map, hi]
  rfl
def MoOut (w0 : World) (ids sl i : Value) (wr : World) : Prop :=
  ∃ (k : Nat) (I : List ByteArray) (L : List SigT), k ≤ 4 ∧ i = .int .i64 k ∧ I.length = k ∧ L.length ≤ 8 * k ∧ MoW w0 I L ids sl wr
def MoIn (w0 : World) (I : List ByteArray) (ids : Value) (k M8 B kb : Nat) (seed pub : ByteArray) (sl i : Value) (wr : World) : Prop :=
  ∃ (m : Nat) (L : List SigT), m ≤ M8 ∧ i = .int .i64 m ∧ L.length ≤ 8 * k + m ∧ MoW w0 I L ids sl wr ∧ KeyM B wr kb seed pub
def MoL (w0 : World) (l : List SetV) (sb ib : Nat) (i : Value) (wr : World) : Prop :=
  ∃ j : Nat, j ≤ 4 ∧ i = .int .i64 j ∧ SetsA wr (some ⟨sb, 0, none⟩) l ∧ wr.heap[ib]? = some (.cells #[.int .i64 0, .int .i64 1, .int .i64 2, .int .i64 3] 3 (0, 0)) ∧ Below w0.heap.size w0 wr

theorem x_size (F : ByteArray) (h : F.size ≤ 1000000) : (F ++ ⟨#[120]⟩ : ByteArray).size ≤ 100000000 ∧ (F ++ ⟨#[120]⟩ : ByteArray).size ≤ 1000000000 ∧ ¬ 9223372036854775807 < F.size + 1 := by
  have e : (⟨#[120]⟩ : ByteArray).size = 1 := rfl
  rw [ByteArray.size_append, e]
  omega
theorem setsA_nil (w : World) : SetsA w none [] := fun i f hi => by simp at hi
theorem openD_fit (s : ByteArray) (k : Int) (l : List SetV) : CFit (openD s k l) := by
  unfold openD
  split
  · exact fit_decD _
  · exact fit_pz

set_option maxRecDepth 100000 in
set_option maxHeartbeats 4000000 in
theorem metaopens_any (p : PD) (d : DV) (kd : Int) (bad : Option Addr) (bn bc : Nat) (w : World) (h : DocM w d p) (hf : EFit p) (hbn : bn ≤ bc) (hbc : bc ≤ 9223372036854775807) (hby : BytM w bad bn) (hV : VarsP w) :
    Calls Tryz.prog 5 #[docV d, .int .i64 kd, .slice bad bn bc] w fun e w' => e = .returned (.bool true) ∧ Below w.heap.size w w' := by
  have HSl := Lib.hid seals_any
  have HRe := Lib.hid (fun W (hb : Below w.heap.size w W) => rencode_all p d W (h.below hb) hf (hV.below hb))
  have HVw := Lib.hid hV
  have HBy := Lib.hid hby
  have hd : DocAt (w.alloc (.cells (docC d) 30)) w.heap.size d := blk_new _ _
  have hB : Below w.heap.size w (w.alloc (.cells (docC d) 30)) := (Below.refl _ w).alloc (Nat.le_refl _) _
  obtain ⟨w1, hw1⟩ : ∃ w1, w1 = w.alloc (.cells (docC d) 30) := ⟨_, rfl⟩
  rw [← hw1] at hd hB
  have HD1 := Lib.hid hd
  have HB1 := Lib.hid hB
  have hES := encD_size p
  unfold docV at HRe ⊢
  clear h hf hV hd hB hby
  generalize encD p = Q at *
  obtain ⟨T, E⟩ := Q
  dsimp only at *
  go_enter Tryz.func5, Tryz.ntmps5
  go_wp2_with fail
  rw [← hw1]
  clear hw1
  refine (HSl.out w1).mono ?_
  rintro e w2 ⟨rfl, hb2⟩
  have HD2 := Lib.hid (HD1.out.later hb2)
  have HB2 := Lib.hid (HB1.out.trans (hb2.mono HB1.out.size))
  clear hb2 HD1 HB1 HSl
  go_wp2_with (first | refine wpList_doc rfl _ rfl w.heap.size d rfl HD2.out ?_ | fail)
  refine (HRe.out w2 HB2.out).mono ?_
  rintro e w3 ⟨rfl, hb3⟩
  have HB3 := Lib.hid (HB2.out.trans (hb3.mono HB2.out.size))
  clear hb3 HB2 HD2 HRe
  go_wp2_with fail
  go_loopw [9, 10, 37] (fun ids sl i wr => MoOut w ids sl i wr) (fun _ _ i _ => 4 - (intOf i).toNat)
  case atStart => exact ⟨0, [], [], by decide, rfl, rfl, Nat.zero_le _, ownL_nil _ _, ownL_nil _ _, HB3.out, fun x hx => by cases hx⟩
  case round =>
    obtain ⟨k, I, L, hk, rfl, hI, hL, hW⟩ := hrel
    have HW := Lib.hid hW
    have HI := Lib.hid hI
    clear hW HB3 hI
    by_cases hlt : k < 4
    · have hcv := conv_seed k (by omega)
      have hsd : (seedN k).size = 1 := rfl
      have hw97 : IntKind.i32.wrap (97 + (k : Int)) = 97 + (k : Int) := by rw [IntKind.wrap_i32]; omega
      go_wp2_with fail
      refine (rnew_any (seedN k) (by rw [hsd]; decide) wr).mono ?_
      generalize hwr0 : wr.heap.size = wr0
      rintro e w4 ⟨kb, rfl, hkey, hb4⟩
      have hps : (pubB (seedN k) 0).size = 32 := tagB_size _ _
      have hsds : (seedN k).size ≤ 1000000 := by rw [hsd]; decide
      generalize pubB (seedN k) 0 = pub at hkey hps
      generalize seedN k = seed at hkey hsds ⊢
      have HKy := Lib.hid hkey
      have HW4 := Lib.hid (HW.out.later (by rw [hwr0]; exact hb4))
      have HNb : Hid (∀ g, (u9 : Value).ownBlock = some g → g < wr0) := Lib.hid (fun g hg => by rw [← hwr0]; exact (OwnL.lt HW.out.own g hg).2)
      clear hkey hb4 HW hcv
      go_wp2_with fail
      refine (rkid_any _ kb seed pub w4 HKy.out (by omega)).mono ?_
      rintro e w5 ⟨rfl, hb5⟩
      have HKy5 := Lib.hid (HKy.out.below hb5)
      have HW5 := Lib.hid (HW4.out.later hb5)
      clear hb5 HW4 HKy
      generalize tagB 38 [oneB 0, pub] = id
      obtain ⟨i0, hi, hz0, hz1, hz2⟩ := info_parts infoStr
      have HI2 := Lib.hid hz2
      clear hz2
      go_wp2_with (first | (at_builtin; refine wpList_appL _ rfl _ _ 22 rfl i0 (.string ⟨#[]⟩) 16 Tryz.underlying22 hi hz0 hz1 HI2.out rfl (by decide) w.heap.size _ I rfl (OwnL.alloc HW5.out.own _) id rfl ⟨w5.heap.size, 0, none⟩ 1 rfl (one_str w5 _ _) ?_ ?_ (by decide) ?_ ?_) | fail)
      · intro u hu; simp at hu; subst hu; rfl
      · have := HI.out; omega
      · rw [size_alloc]; have := HW5.out.below.size; omega
      intro ids' w6 ho6 hg6 hown6
      have HW6 := Lib.hid (HW5.out.addId _ id ho6 hg6)
      have HKy6 := Lib.hid (HKy5.out.addId _ HW5.out.own HNb.out hg6)
      have HI6 : Hid ((I ++ [id]).length = k + 1) := Lib.hid (by rw [List.length_append, HI.out]; rfl)
      generalize I ++ [id] = I' at HW6 HI6
      clear ho6 hg6 hown6 HW5 HKy5 HI HNb
      obtain ⟨M8, hM8, hM9, hmin, hmax⟩ : ∃ M8 : Nat, M8 ≤ bn ∧ M8 ≤ 8 ∧ min (bn : Int) 8 = (M8 : Int) ∧ max (M8 : Int) 0 = (M8 : Int) := ⟨min bn 8, by omega, by omega, by omega, by omega⟩
      have hM10 : (M8 : Int) ≤ (bc : Int) := by omega
      have hM11 : (0 : Int) ≤ (M8 : Int) := by omega
      go_wp2_with fail
      go_loopw [10, 59] (fun sl i wr => MoIn w I' ids' k M8 wr0 kb seed pub sl i wr) (fun _ i _ => M8 - (intOf i).toNat)
      case atStart => exact ⟨0, L, Nat.zero_le _, rfl, hL, HW6.out, HKy6.out⟩
      case round =>
        obtain ⟨m, L2, hm, rfl, hL2, hW7, hK7⟩ := hrel
        have HW7 := Lib.hid hW7
        have HK7 := Lib.hid hK7
        clear hW7 hK7 HW6 HKy6
        by_cases hlt2 : m < M8
        · obtain ⟨pb, po, rfl, b, hb, hcb⟩ := HBy.out m (by omega)
          have hcb2 : wr.cell? ⟨pb, po + m, none⟩ = some (.int .u8 b) := (HW7.out.below.cell (cell_lt hcb)).trans hcb
          have hm0 : (0 : Int) ≤ (m : Int) := by omega
          have hm1 : (m : Int) < (M8 : Int) := by omega
          have hbm : 0 ≤ (b : Int) % 5 ∧ (b : Int) % 5 < 5 := by omega
          clear hcb
          by_cases h1 : (b : Int) % 5 = (k : Int)
          · have h1b : ((b : Int) % 5 == (k : Int)) = true := beq_iff_eq.2 h1
            have hId := rkid_any wr0 kb seed pub wr HK7.out (by omega)
            have hAt := fun W (hW : Below wr.heap.size wr W) => rkat_any wr0 kb seed pub T W (HK7.out.below hW) hsds (by omega)
            have hsz1 : (tagB 38 [oneB 0, pub]).size ≤ 1000 := by rw [tagB_size]; decide
            have hsz2 : (kSig seed T).size ≤ 1000 := by rw [kSig_size]; decide
            generalize tagB 38 [oneB 0, pub] = idv at hId hsz1
            generalize kSig seed T = sgv at hAt hsz2
            have HId := Lib.hid hId
            have HAt := Lib.hid hAt
            obtain ⟨i0, hi, hz0, hz1, hz2⟩ := info_parts infoSig
            have HI2 := Lib.hid hz2
            have hll : L2.length + 1 ≤ 1000000000 := by omega
            have HLL := Lib.hid hll
            clear hId hAt hz2 hll
            go_wp2_with fail
            refine HId.out.mono ?_
            rintro e w8 ⟨rfl, h8⟩
            have HB8 := Lib.hid h8
            have HW8 := Lib.hid (HW7.out.later h8)
            clear h8
            go_wp2_with fail
            refine (HAt.out w8 HB8.out).mono ?_
            rintro e w9 ⟨rfl, h9⟩
            have HB9 := Lib.hid (HB8.out.trans (h9.mono HB8.out.size))
            have HW9 := Lib.hid (HW8.out.later h9)
            clear h9 HB8 HW8
            go_wp2_with (first | (at_builtin; refine wpList_appL _ rfl _ _ 41 rfl i0 (.agg #[.string ⟨#[]⟩, .string ⟨#[]⟩]) 32 Tryz.underlying41 hi hz0 hz1 HI2.out rfl (by decide) w.heap.size _ L2 rfl (OwnL.alloc HW9.out.sigs _) (idv, sgv) rfl ⟨w9.heap.size, 0, none⟩ 1 rfl (one_sig w9 (idv, sgv) _) ?_ HLL.out (by decide) ?_ ?_) | fail)
            · first | (intro u hu; simp at hu; rcases hu with rfl | rfl <;> rfl) | exact ⟨rfl, rfl⟩ | rfl | decide
            · rw [size_alloc]; have := HW9.out.below.size; omega
            intro v8 wz hoz hgz hvz
            have HWz := Lib.hid (HW9.out.addSig _ (idv, sgv) ⟨hsz1, hsz2⟩ hoz hgz)
            have HKz := Lib.hid ((HK7.out.below HB9.out).addSg _ HW9.out.sigs hgz)
            clear hoz hgz hvz
            go_wp2_with fail
            refine ⟨⟨m + 1, _, hlt2, rfl, ?_, HWz.out, HKz.out⟩, ?_⟩
            · rw [List.length_append]; show L2.length + 1 ≤ _; omega
            · show M8 - ((m : Int) + 1).toNat < M8 - (m : Int).toNat
              omega
          · have h1b : ((b : Int) % 5 == (k : Int)) = false := beq_eq_false_iff_ne.2 h1
            go_wp2_with fail
            refine ⟨⟨m + 1, L2, hlt2, rfl, by omega, HW7.out, HK7.out⟩, ?_⟩
            show M8 - ((m : Int) + 1).toNat < M8 - (m : Int).toNat
            omega
        · obtain rfl : m = M8 := by omega
          go_wp2_with fail
          refine ⟨⟨k + 1, I', L2, by omega, rfl, HI6.out, by omega, HW7.out⟩, ?_⟩
          show 4 - ((k : Int) + 1).toNat < 4 - (k : Int).toNat
          omega
    · obtain rfl : k = 4 := by omega
      have hI3 := HI.out
      obtain ⟨iad, icap, rfl, hicp, -, -⟩ := OwnL.form HW.out.own
      have hTx : TxM wr iad I := by
        obtain ⟨a2, c2, h1, h2⟩ := OwnS.txs HW.out.own
        cases h1
        exact h2
      have hTx2 : TxM wr iad (I.take 2) := fun i t hi => hTx i t (by rw [List.getElem?_take] at hi; split at hi; exact hi; cases hi)
      have hl2 : (I.take 2).length = 2 := by rw [List.length_take]; omega
      have hr1 := rising_any iad (I.take 2) icap wr hTx2 (by omega)
      have hr2 := fun W (hW : Below wr.heap.size wr W) => rising_any iad I icap W (hTx.below hW) (by omega)
      rw [hl2] at hr1
      have hc2 : (2 : Int) ≤ (icap : Int) := by omega
      have HI3 := Lib.hid hI3
      have HR1 := Lib.hid hr1
      have HR2 := Lib.hid hr2
      clear HI hTx hTx2 hr1 hr2 hI3 hl2 hicp
      go_wp2_with fail
      refine HR1.out.mono ?_
      rintro e w4 ⟨v, M1, rfl, hMo, -, hMl1, hb4⟩
      obtain ⟨ad1, cap1, rfl, hT1⟩ := OwnS.txs hMo
      have HW4 := Lib.hid (HW.out.later hb4)
      have HB4 := Lib.hid hb4
      have HT1 := Lib.hid hT1
      clear hMo hb4 hT1 HW HR1
      go_wp2_with fail
      refine (HR2.out w4 HB4.out).mono ?_
      rintro e w5 ⟨v, M2, rfl, hMo, -, hMl2, hb5⟩
      obtain ⟨ad2, cap2, rfl, hT2⟩ := OwnS.txs hMo
      have HW5 := Lib.hid (HW4.out.later hb5)
      have HT1 := Lib.hid (HT1.out.below hb5)
      have HT2 := Lib.hid hT2
      have hq1 : M1.length ≤ 100000000 := by have := List.length_take_le 2 I; omega
      have hq2 : M2.length ≤ 100000000 := by have := HI3.out; omega
      obtain ⟨sad, scap, rfl, hSg⟩ := OwnG.sigs HW5.out.sigs
      have HSg := Lib.hid hSg
      clear hMo hb5 hT2 HW4 HB4 HR2 hSg
      go_wp2_with fail
      have hbX := (Below.refl w5.heap.size w5).alloc (Nat.le_refl _) (.cells #[.slice ad1 M1.length cap1, .int .i64 1, .slice ad2 M2.length cap2, .int .i64 2, .slice none 0 0, .int .i64 0] 24)
      have hrow : (w5.alloc (.cells #[.slice ad1 M1.length cap1, .int .i64 1, .slice ad2 M2.length cap2, .int .i64 2, .slice none 0 0, .int .i64 0] 24)).heap[w5.heap.size]? = some (.cells #[.slice ad1 M1.length cap1, .int .i64 1, .slice ad2 M2.length cap2, .int .i64 2, .slice none 0 0, .int .i64 0] 24 (0, 0)) := blk_new _ _
      have hW6 := HW5.out.later hbX
      have hT16 := HT1.out.below hbX
      have hT26 := HT2.out.below hbX
      have hS6 := HSg.out.below hbX
      clear HW5 HT1 HT2 HSg
      generalize w5.alloc (.cells #[.slice ad1 M1.length cap1, .int .i64 1, .slice ad2 M2.length cap2, .int .i64 2, .slice none 0 0, .int .i64 0] 24) = w6 at hrow hW6 hT16 hT26 hS6 ⊢
      generalize w5.heap.size = sb at hrow ⊢
      obtain ⟨l, hl⟩ : ∃ l : List SetV, l = [((⟨ad1, M1.length, cap1, 1⟩ : SV), (M1, 1)), (⟨ad2, M2.length, cap2, 2⟩, (M2, 2)), (⟨none, 0, 0, 0⟩, ([], 0))] := ⟨_, rfl⟩
      have hll : l.length = 3 := by rw [hl]; rfl
      have hSA : SetsA w6 (some ⟨sb, 0, none⟩) l := by
        intro i f hi
        rw [hl] at hi
        have h3 : i = 0 ∨ i = 1 ∨ i = 2 := by
          have := (List.getElem?_eq_some_iff.1 hi).1
          simp at this
          omega
        rcases h3 with rfl | rfl | rfl
        · obtain rfl := Option.some.inj hi
          exact ⟨sb, 0, rfl, cell_of_blk hrow 0 rfl, cell_of_blk hrow 1 rfl, ⟨rfl, rfl, hT16⟩, hq1⟩
        · obtain rfl := Option.some.inj hi
          exact ⟨sb, 0, rfl, cell_of_blk hrow 2 rfl, cell_of_blk hrow 3 rfl, ⟨rfl, rfl, hT26⟩, hq2⟩
        · obtain rfl := Option.some.inj hi
          exact ⟨sb, 0, rfl, cell_of_blk hrow 4 rfl, cell_of_blk hrow 5 rfl, ⟨rfl, rfl, fun i t h => by simp at h⟩, Nat.zero_le _⟩
      have hse := rseal_any T sad L scap w6 hS6 (by omega) (by omega) (fun x hx => by have := hW6.small x hx; omega)
      rw [rseal_eq] at hse
      have HSe := Lib.hid hse
      have hxo := openE_x T L kd []
      have hsz := sealP_size T L
      have hsg : sigsZ L ≤ 2100 * L.length := sigsZ_small L hW6.small
      generalize hF : sealP T L = FF at HSe hxo hsz
      obtain ⟨F, fe⟩ := FF
      dsimp only at HSe hxo hsz
      have HSA := Lib.hid hSA
      have HB6 := Lib.hid hW6.below
      clear hrow hW6 hT16 hT26 hS6 hse hF hSA hl
      refine HSe.out.mono ?_
      rintro e w7 ⟨rfl, hb7⟩
      have hFz : F.size ≤ 1000000 := by omega
      have HB7 := Lib.hid (HB6.out.trans (hb7.mono HB6.out.size))
      have HSA7 := Lib.hid (HSA.out.below hb7)
      clear hb7 HB6 HSA HSe hsz hsg
      go_wp2_with fail
      have hbY := (Below.refl w7.heap.size w7).alloc (Nat.le_refl _) (.cells #[.int .i64 0, .int .i64 1, .int .i64 2, .int .i64 3] 3)
      have hrow : (w7.alloc (.cells #[.int .i64 0, .int .i64 1, .int .i64 2, .int .i64 3] 3)).heap[w7.heap.size]? = some (.cells #[.int .i64 0, .int .i64 1, .int .i64 2, .int .i64 3] 3 (0, 0)) := blk_new _ _
      have hL0 : MoL w l sb w7.heap.size (.int .i64 0) (w7.alloc (.cells #[.int .i64 0, .int .i64 1, .int .i64 2, .int .i64 3] 3)) := ⟨0, by decide, rfl, HSA7.out.below hbY, hrow, HB7.out.trans (hbY.mono HB7.out.size)⟩
      have HL0 := Lib.hid hL0
      generalize w7.alloc (.cells #[.int .i64 0, .int .i64 1, .int .i64 2, .int .i64 3] 3) = w8 at HL0 ⊢
      generalize w7.heap.size = ib at HL0 ⊢
      clear hbY hrow hL0 HB7 HSA7
      go_loopw [96] (fun i wr => MoL w l sb ib i wr) (fun i _ => 4 - (intOf i).toNat)
      case atStart => exact HL0.out
      case round =>
        obtain ⟨j, hj, rfl, hA, hr, hbel⟩ := hrel
        have HA := Lib.hid hA
        have HR := Lib.hid hr
        have HB := Lib.hid hbel
        clear hA hr hbel HL0
        by_cases hlt : j < 4
        · have hcj : wr.cell? ⟨ib, j, none⟩ = some (.int .i64 j) := by
            have h4 : j = 0 ∨ j = 1 ∨ j = 2 ∨ j = 3 := by omega
            rcases h4 with rfl | rfl | rfl | rfl <;> exact cell_of_blk HR.out _ rfl
          have hlj : (l.take j).length = j := by rw [List.length_take, hll]; omega
          have ho1 := fun W (hW : Below wr.heap.size wr W) => open_any F kd (some ⟨sb, 0, none⟩) (l.take j) 3 W (by omega) (HVw.out.below (HB.out.trans (hW.mono HB.out.size))) ((HA.out.below hW).take j) (by omega) (Nat.le_trans (usP_body F) (by omega))
          have ho2 := fun W (hW : Below wr.heap.size wr W) => ropen_any F kd (some ⟨sb, 0, none⟩) (l.take j) 3 W (by omega) (HVw.out.below (HB.out.trans (hW.mono HB.out.size))) ((HA.out.below hW).take j) (by omega) (Nat.le_trans (usP_body F) (by omega))
          have hfit := openD_fit F kd (l.take j)
          rw [hlj] at ho1 ho2
          generalize openE F kd (l.take j) = oe at ho1 ho2
          generalize openD F kd (l.take j) = od at ho1 ho2 hfit
          generalize openB F kd (l.take j) = ob at ho1 ho2
          have HO1 := Lib.hid ho1
          have HO2 := Lib.hid ho2
          have HFit := Lib.hid hfit
          have hj0 : (0 : Int) ≤ (j : Int) := by omega
          have hj3 : (j : Int) ≤ 3 := by omega
          have hj4 : (j : Int) < 4 := by omega
          have hbb : (ob.toList == ob.toList) = true := beq_self_eq_true _
          have hbb2 : (ob.toList != ob.toList) = false := by rw [bne, hbb]; rfl
          have hee : (oe == oe) = true := beq_self_eq_true _
          have hee2 : (oe != oe) = false := by rw [bne, hee]; rfl
          clear ho1 ho2 hfit hlj
          go_wp2_with fail
          refine (HO1.out wr (Below.refl _ _)).mono ?_
          rintro e w9 ⟨d1, rfl, hd1, hb9⟩
          have hz9 : DocAt (w9.alloc (.cells (docC dz) 30)) w9.heap.size dz := blk_new _ _
          have hk9 := doc_setRow hz9 d1
          have hb9x : Below w9.heap.size w9 ((w9.alloc (.cells (docC dz) 30)).setRow w9.heap.size (docC d1)) := Below.trans ((Below.refl _ _).alloc (Nat.le_refl _) _) (hk9.2.toBelow (by simp) (fun i hi => by omega))
          have HZ9 := Lib.hid hz9
          have HK9 := Lib.hid (show DocAt ((w9.alloc (.cells (docC dz) 30)).setRow w9.heap.size (docC d1)) w9.heap.size d1 from hk9.1)
          have HM9 := Lib.hid (hd1.below hb9x)
          have HB9 := Lib.hid (hb9.trans (hb9x.mono hb9.size))
          clear hd1 hb9 hz9 hk9 hb9x HO1
          go_wp2_with (first | refine wpList_docst rfl _ _ rfl w9.heap.size dz d1 rfl rfl HZ9.out ?_ | fail)
          change Calls Tryz.prog 24 _ ((w9.alloc (.cells (docC dz) 30)).setRow w9.heap.size (docC d1)) _
          generalize (w9.alloc (.cells (docC dz) 30)).setRow w9.heap.size (docC d1) = wA at HK9 HM9 HB9 ⊢
          generalize w9.heap.size = b1 at HK9 ⊢
          refine (HO2.out wA HB9.out).mono ?_
          rintro e wB ⟨d2, rfl, hd2, hbB⟩
          have hzB : DocAt (wB.alloc (.cells (docC dz) 30)) wB.heap.size dz := blk_new _ _
          have hkB := doc_setRow hzB d2
          have hbBx : Below wB.heap.size wB ((wB.alloc (.cells (docC dz) 30)).setRow wB.heap.size (docC d2)) := Below.trans ((Below.refl _ _).alloc (Nat.le_refl _) _) (hkB.2.toBelow (by simp) (fun i hi => by omega))
          have hbBB := hbB.trans (hbBx.mono hbB.size)
          have HZB := Lib.hid hzB
          have HKB := Lib.hid (show DocAt ((wB.alloc (.cells (docC dz) 30)).setRow wB.heap.size (docC d2)) wB.heap.size d2 from hkB.1)
          have HMB := Lib.hid (hd2.below hbBx).m
          have HKA := Lib.hid (show DocAt ((wB.alloc (.cells (docC dz) 30)).setRow wB.heap.size (docC d2)) b1 d1 from HK9.out.later hbBB)
          have HMA := Lib.hid ((HM9.out.below hbBB).m)
          have HBB := Lib.hid (HB9.out.trans (hbBB.mono HB9.out.size))
          clear hd2 hbB hzB hkB hbBx hbBB HK9 HM9 HB9 HO2
          go_wp2_with (first | refine wpList_docst rfl _ _ rfl wB.heap.size dz d2 rfl rfl HZB.out ?_ | refine wpList_doc rfl _ rfl b1 d1 rfl HKA.out ?_ | refine wpList_doc rfl _ rfl wB.heap.size d2 rfl HKB.out ?_ | fail)
          change Calls Tryz.prog 12 _ ((wB.alloc (.cells (docC dz) 30)).setRow wB.heap.size (docC d2)) _
          generalize (wB.alloc (.cells (docC dz) 30)).setRow wB.heap.size (docC d2) = wC at HMA HMB HBB ⊢
          have hS := same_all od od d1 d2 wC HMA.out HMB.out HFit.out HFit.out
          rw [sameP_refl] at hS
          unfold docV at hS
          refine hS.mono ?_
          clear hS
          rintro e wD ⟨rfl, hbD⟩
          have hbW := HBB.out.trans (hbD.mono HBB.out.size)
          have hMoL := (⟨j + 1, by omega, rfl, HA.out.below hbW, blk_later HR.out hbW, HB.out.trans (hbW.mono HB.out.size)⟩ : MoL w l sb ib (.int .i64 ((j : Int) + 1)) wD)
          have HMoL := Lib.hid hMoL
          clear hbD hbW hMoL HZB HKB HMB HKA HMA HBB HA HR HB
          go_wp2_with fail
          refine ⟨HMoL.out, ?_⟩
          show 4 - ((j : Int) + 1).toNat < 4 - (j : Int).toNat
          omega
        · obtain rfl : j = 4 := by omega
          obtain ⟨hx1, hx2, hcat⟩ := x_size F hFz
          have ho := open_any (F ++ ⟨#[120]⟩) kd none [] 0 wr hx2 (HVw.out.below HB.out) (setsA_nil wr) (Nat.zero_le _) (Nat.le_trans (usP_body _) hx1)
          rw [hxo.1, hxo.2.1, hxo.2.2] at ho
          have HO := Lib.hid ho
          have HB0 := Lib.hid HB.out
          have hem : (ByteArray.toList ⟨#[]⟩ == ByteArray.toList ⟨#[]⟩) = true := beq_self_eq_true _
          clear HA HR HB ho hxo hx1 hx2
          go_wp2_with fail
          refine HO.out.mono ?_
          rintro e w9 ⟨d1, rfl, hd1, hb9⟩
          have hz9 : DocAt (w9.alloc (.cells (docC dz) 30)) w9.heap.size dz := blk_new _ _
          have hk9 := doc_setRow hz9 d1
          have hb9x : Below w9.heap.size w9 ((w9.alloc (.cells (docC dz) 30)).setRow w9.heap.size (docC d1)) := Below.trans ((Below.refl _ _).alloc (Nat.le_refl _) _) (hk9.2.toBelow (by simp) (fun i hi => by omega))
          have HZ9 := Lib.hid hz9
          have HK9 := Lib.hid (show DocAt ((w9.alloc (.cells (docC dz) 30)).setRow w9.heap.size (docC d1)) w9.heap.size d1 from hk9.1)
          have HM9 := Lib.hid ((hd1.below hb9x).m)
          have HB9 := Lib.hid (HB0.out.trans ((hb9.trans (hb9x.mono hb9.size)).mono HB0.out.size))
          clear hd1 hb9 hz9 hk9 hb9x HO HB0
          go_wp2_with (first | refine wpList_docst rfl _ _ rfl w9.heap.size dz d1 rfl rfl HZ9.out ?_ | refine wpList_doc rfl _ rfl w9.heap.size d1 rfl HK9.out ?_ | fail)
          change Calls Tryz.prog 12 #[docV d1, docV dz] ((w9.alloc (.cells (docC dz) 30)).setRow w9.heap.size (docC d1)) _
          generalize (w9.alloc (.cells (docC dz) 30)).setRow w9.heap.size (docC d1) = wC at HM9 HB9 ⊢
          have hS := same_all pz pz d1 dz wC HM9.out (doc_none (base := 0)).m fit_pz fit_pz
          rw [sameP_refl] at hS
          refine hS.mono ?_
          clear hS
          rintro e wD ⟨rfl, hbD⟩
          have HBD := Lib.hid (HB9.out.trans (hbD.mono HB9.out.size))
          clear hbD HB9 HM9 HK9 HZ9
          go_wp2_with fail
          go_ret
          exact ⟨rfl, HBD.out⟩
end Go.Proofs.YtmejjphliaiamaaGreatDoor
