import Derived.Test.YtffolbdimkhmmaaDoorScX
import Derived.Test.YtffolbdimkhmmaaDoorScY
import Derived.Test.YtffolbdimkhmmaaDoorScZ
set_option linter.unusedVariables false
set_option linter.unusedSimpArgs false
namespace Go.Proofs.YtffolbdimkhmmaaDoor
open Go Go.RowKit Go.Lib

/-! ### a builder that nobody has read, written by texts and by bytes -/
structure BdP (w : World) (b : Nat) (p v : Value) (s : ByteArray) : Prop where
  ptr : p = .pointer none ∨ p = .pointer (some ⟨b, 0, none⟩)
  blk : w.heap[b]? = some (.cells #[p, v] TB (0, 0))
  own : OwnB w b v s
def BdE (w : World) (b : Nat) (s : ByteArray) : Prop := ∃ p v, BdP w b p v s
theorem BdP.ne {w : World} {b : Nat} {p v : Value} {s : ByteArray} (h : BdP w b p v s) : v.ownBlock ≠ some b := h.own.ne_blk h.blk (by decide)
theorem BdE.f {w : World} {b : Nat} {s : ByteArray} (h : BdE w b s) : Lib.IsBuilderF TB 5 b b (Lib.strCells s) w := by
  obtain ⟨p, v, h1, h2, h3⟩ := h
  have h4 : Lib.BuilderAtF TB 5 b b p (Lib.strCells s) w := ⟨Nat.le_refl _, v, h2, by rw [Lib.strCells_length]; exact World.ownsRowF_of h3, BdP.ne ⟨h1, h2, h3⟩⟩
  rcases h1 with rfl | rfl
  · exact .inl h4
  · exact .inr h4
theorem bdE_new (w : World) : BdE (w.alloc (.cells #[.pointer none, .slice none 0 0] 44)) w.heap.size ⟨#[]⟩ := ⟨_, _, .inl rfl, blk_new _ _, ownB_nil _ _⟩
theorem copy_bd (b : Nat) (p v : Value) (s : ByteArray) (w : World) (h : BdP w b p v s) :
    Calls Tryd.prog 29 #[.pointer (some ⟨b, 0, none⟩)] w fun e w' => e = .returned (.tuple #[]) ∧ BdP w' b (.pointer (some ⟨b, 0, none⟩)) v s ∧ Below b w w' := by
  have hsh : w.shape? b = some (TB, 2) := by simp [World.shape?, h.blk]
  rcases h.ptr with rfl | rfl
  · refine (copy_fresh b w (cell_of_blk h.blk 0 rfl) hsh (free_of_blk h.blk 0)).mono ?_
    rintro e w' ⟨rfl, rfl⟩
    have k : Kp (fun k => k = b) w (w.setCell ⟨b, 0, none⟩ (.pointer (some ⟨b, 0, none⟩))) := Kp.setCell (S := fun k => k = b) (Kp.refl _ w) (p := ⟨b, 0, none⟩) (.inl rfl) _
    exact ⟨rfl, ⟨.inr rfl, blk_set h.blk _, h.own.kp k fun g hg e => h.ne (by rw [hg, e])⟩, (Below.refl b w).setCell (p := ⟨b, 0, none⟩) (Nat.le_refl _) _⟩
  · refine (copy_used b w (cell_of_blk h.blk 0 rfl)).mono ?_
    rintro e w' ⟨rfl, rfl⟩
    exact ⟨rfl, h, Below.refl _ _⟩
/-- the buffer has grown; the builder's cell is to be set. -/
theorem BdP.put {w w' : World} {b : Nat} {p v v' : Value} {s s' : ByteArray} (h : BdP w b p v s) (ho : OwnB w' b v' s') (hg : w.grownBy w' v.ownBlock) (hs : b ≤ w.heap.size) : w'.heap[b]? = some (.cells #[p, v] TB (0, 0)) ∧ BdE (w'.setCell ⟨b, 1, none⟩ v') b s' ∧ Below b w (w'.setCell ⟨b, 1, none⟩ v') := by
  have hlt : b < w.heap.size := (Array.getElem?_eq_some_iff.1 h.blk).1
  have hb2 : w'.heap[b]? = some (.cells #[p, v] TB (0, 0)) := (hg.block b hlt (fun e => h.ne e.symm)).trans h.blk
  have k : Kp (fun k => k = b) w' (w'.setCell ⟨b, 1, none⟩ v') := Kp.setCell (S := fun k => k = b) (Kp.refl _ w') (p := ⟨b, 1, none⟩) (.inl rfl) _
  refine ⟨hb2, ⟨p, v', h.ptr, blk_set hb2 _, ho.kp k fun g hg e => ho.ne_blk hb2 (by decide) (by rw [hg, e])⟩, ?_⟩
  exact ((Below.refl b w).grown hg hs (fun g hg => (h.own.lt g hg).1)).setCell (p := ⟨b, 1, none⟩) (Nat.le_refl _) _
set_option maxRecDepth 100000 in
set_option maxHeartbeats 1000000 in
theorem bws_any (b : Nat) (s t : ByteArray) (w : World) (h : BdE w b s) (hz : s.size + t.size ≤ 70368744177664) :
    Calls Tryd.prog 15 #[.pointer (some ⟨b, 0, none⟩), .string t] w fun e w' => e = .returned (.tuple #[.int .i64 t.size, .nilIface]) ∧ BdE w' b (s ++ t) ∧ Below b w w' := by
  obtain ⟨p, v, h⟩ := h
  have HC := Lib.hid (copy_bd b p v s w h)
  clear h
  go_enter Tryd.func15, Tryd.ntmps15
  go_wp2_with fail
  refine HC.out.mono ?_
  rintro e w1 ⟨rfl, h1, hb1⟩
  have H1 := Lib.hid h1
  have HB1 := Lib.hid hb1
  have c1 : w1.cell? ⟨b, 1, none⟩ = some v := cell_of_blk h1.blk 1 rfl
  have hbs : b ≤ w1.heap.size := Nat.le_of_lt (Array.getElem?_eq_some_iff.1 h1.blk).1
  clear h1 hb1
  go_wp2_with (first | (at_builtin; refine wpList_appS _ rfl rfl _ _ rfl b _ s rfl H1.out.own t rfl hz hbs ?_) | fail)
  intro v' w2 ho hg
  obtain ⟨hb2, hE, hbl⟩ := H1.out.put ho hg hbs
  obtain ⟨ao, n', cap, rfl⟩ : ∃ ao n' cap, v' = .slice ao n' cap := by obtain ⟨ao, cap, h⟩ := ho.slice; exact ⟨ao, _, cap, h⟩
  have d1 : w2.cell? ⟨b, 1, none⟩ = some v := cell_of_blk hb2 1 rfl
  have f1 := free_of_blk hb2 1
  have HE := Lib.hid hE
  have HBl := Lib.hid hbl
  clear hb2 hE hbl ho hg c1
  go_wp2_with fail
  go_ret2
  exact ⟨rfl, HE.out, HB1.out.trans HBl.out⟩
theorem one_byte (w : World) (c : UInt8) (t : TypeId) : ∀ j u, (Lib.strCells (⟨#[c]⟩ : ByteArray))[j]? = some u → (w.alloc (.cells #[.int .u8 c.toNat] t)).cell? ((⟨w.heap.size, 0, none⟩ : Addr).add j) = some u :=
  cells_of_blk (blk_new w _) rfl
set_option maxRecDepth 100000 in
set_option maxHeartbeats 1000000 in
theorem bwb_any (b : Nat) (s : ByteArray) (c : UInt8) (w : World) (h : BdE w b s) (hz : s.size + 1 ≤ 70368744177664) :
    Calls Tryd.prog 16 #[.pointer (some ⟨b, 0, none⟩), .int .u8 c.toNat] w fun e w' => e = .returned .nilIface ∧ BdE w' b (s ++ ⟨#[c]⟩) ∧ Below b w w' := by
  obtain ⟨p, v, h⟩ := h
  have HC := Lib.hid (copy_bd b p v s w h)
  clear h
  go_enter Tryd.func16, Tryd.ntmps16
  go_wp2_with fail
  refine HC.out.mono ?_
  rintro e w1 ⟨rfl, h1, hb1⟩
  have H1 := Lib.hid h1
  have HB1 := Lib.hid hb1
  have c1 : w1.cell? ⟨b, 1, none⟩ = some v := cell_of_blk h1.blk 1 rfl
  have hlt : b < w1.heap.size := (Array.getElem?_eq_some_iff.1 h1.blk).1
  have hA : BdP (w1.alloc (.cells #[.int .u8 c.toNat] 5)) b (.pointer (some ⟨b, 0, none⟩)) v s := ⟨h1.ptr, blk_alloc h1.blk _, h1.own.alloc _⟩
  have HA := Lib.hid hA
  clear h1 hb1 hA
  go_wp2_with (first | (at_builtin; refine wpList_appB _ rfl rfl _ _ rfl b _ s rfl HA.out.own ⟨#[c]⟩ ⟨w1.heap.size, 0, none⟩ 1 1 rfl rfl (one_byte w1 c _) ?_ ?_ ?_) | fail)
  · exact hz
  · first | omega | (rw [size_alloc]; omega)
  intro v' w2 ho hg
  obtain ⟨hb2, hE, hbl⟩ := HA.out.put ho hg (by rw [size_alloc]; omega)
  obtain ⟨ao, n', cap, rfl⟩ : ∃ ao n' cap, v' = .slice ao n' cap := by obtain ⟨ao, cap, h⟩ := ho.slice; exact ⟨ao, _, cap, h⟩
  have d1 : w2.cell? ⟨b, 1, none⟩ = some v := cell_of_blk hb2 1 rfl
  have f1 := free_of_blk hb2 1
  have HE := Lib.hid hE
  have HBl := Lib.hid (((Below.refl b w1).alloc (Nat.le_of_lt hlt) _).trans hbl)
  clear hb2 hE hbl ho hg c1
  go_wp2_with fail
  go_ret
  exact ⟨rfl, HE.out, HB1.out.trans HBl.out⟩
theorem BdE.below {w w' : World} {b : Nat} {s : ByteArray} (h : BdE w b s) (k : Below w.heap.size w w') : BdE w' b s := by
  obtain ⟨p, v, h1, h2, h3⟩ := h
  exact ⟨p, v, h1, blk_later h2 k, h3.below k⟩
theorem BdE.lt {w : World} {b : Nat} {s : ByteArray} (h : BdE w b s) : b < w.heap.size := by
  obtain ⟨p, v, h1, h2, h3⟩ := h
  exact (Array.getElem?_eq_some_iff.1 h2).1

/-! ### ScriptLoose -/
/-- bytes that came in. -/
def BytM (w : World) (ad : Option Addr) (l : List UInt8) : Prop := ∀ i c, l[i]? = some c → ∃ pb po, ad = some ⟨pb, po, none⟩ ∧ w.cell? ⟨pb, po + i, none⟩ = some (.int .u8 c.toNat)
def LsRel (text : ByteArray) (gaps : List UInt8) (b : Nat) (w0 : World) (vk vi : Value) (wr : World) : Prop :=
  ∃ (i k : Nat) (s : ByteArray), i ≤ text.size ∧ vi = .int .i64 i ∧ vk = .int .i64 k ∧ k ≤ i ∧ looseL gaps 0 text.data.toList = s.data.toList ++ looseL gaps k (text.data.toList.drop i) ∧ s.size ≤ 12 * i ∧ BdE wr b s ∧ Below b w0 wr
theorem loose_cons (gaps : List UInt8) (k : Nat) (c : UInt8) (r : List UInt8) : looseL gaps k (c :: r) = if (c = 10 ∨ c = 32) ∧ gaps ≠ [] then pre (gapN gaps k) c ++ c :: looseL gaps (k + 1) r else c :: looseL gaps k r := by rw [looseL]
theorem pre_step (gaps : List UInt8) (k : Nat) (c : UInt8) (r : List UInt8) : ∃ (gv k' : Nat), gv < 256 ∧ k' ≤ k + 1 ∧ looseL gaps k (c :: r) = pre (gv % 3) c ++ c :: looseL gaps k' r ∧
    (((c = 10 ∨ c = 32) ∧ gaps ≠ [] → k' = k + 1 ∧ gv = (gaps.getD (k % gaps.length) 0).toNat) ∧ (¬ ((c = 10 ∨ c = 32) ∧ gaps ≠ []) → k' = k ∧ gv = 0)) := by
  rw [loose_cons]
  by_cases h : (c = 10 ∨ c = 32) ∧ gaps ≠ []
  · rw [if_pos h]
    exact ⟨_, k + 1, UInt8.toNat_lt _, Nat.le_refl _, rfl, fun _ => ⟨rfl, rfl⟩, fun x => absurd h x⟩
  · rw [if_neg h]
    refine ⟨0, k, by omega, by omega, ?_, fun x => absurd x h, fun _ => ⟨rfl, rfl⟩⟩
    unfold pre
    rw [if_neg (by decide), if_neg (fun x => absurd x.2 (by decide))]
    rfl
theorem own_others {α : Type} {e : TypeId} {size : Nat} {mk : α → List Value} {w w' : World} {base b : Nat} {v : Value} {l : List α} {cs : Array Value} {f : Nat × Nat} (h : OwnL e size mk w base v l) (k : Lib.OthersKept 5 (some b) w w') (he : e ≠ 5) (hb : w.heap[b]? = some (.cells cs TB f)) (hT : e ≠ TB) : OwnL e size mk w' base v l :=
  h.of_block fun g hg => by
    obtain ⟨cur, fz, hh⟩ := own_type h g hg
    rw [hh]
    refine k g _ hh (fun e2 => ?_) (fun c fz e2 => by injection e2 with _ e2; exact he e2)
    have e3 : g = b := Option.some.inj e2
    subst e3
    rw [hb] at hh
    injection hh with hh
    injection hh with _ hh
    exact hT hh.symm
def twoB : ByteArray := ⟨#[32, 32]⟩
def flyB : ByteArray := ⟨#[10, 35, 32, 102, 108, 121, 10, 32, 32]⟩
theorem pre_cases (m : Nat) (c : UInt8) : (m = 1 → pre m c = twoB.data.toList) ∧ (m ≠ 1 → c = 10 ∧ m = 2 → pre m c = flyB.data.toList) ∧ (m ≠ 1 → ¬ (c = 10 ∧ m = 2) → pre m c = []) := by
  unfold pre
  refine ⟨fun h => ?_, fun h h2 => ?_, fun h h2 => ?_⟩
  · subst h; rw [if_pos rfl, if_neg (fun x => absurd x.2 (by decide))]; rfl
  · rw [if_neg h, if_pos h2]; rfl
  · rw [if_neg h, if_neg h2]; rfl
set_option maxRecDepth 100000 in
set_option maxHeartbeats 8000000 in
theorem loose_any (text : ByteArray) (gaps : List UInt8) (gad : Option Addr) (gcap : Nat) (w : World) (hV : VarsV w) (ht : text.size ≤ 100000000) (hg : gaps.length ≤ 100000000) (hG : BytM w gad gaps) :
    Calls Tryd.prog 6 #[.string text, .slice gad gaps.length gcap] w fun e w' => e = .returned (.bool true) ∧ Below w.heap.size w w' := by
  have HR := Lib.hid (reads_any w hV)
  have HV := Lib.hid hV
  have HG := Lib.hid hG
  clear hV hG
  go_enter Tryd.func6, Tryd.ntmps6
  go_wp2_with fail
  refine HR.out.mono ?_
  rintro e w1 ⟨rfl, hb1⟩
  have hE := bdE_new w1
  have hb2 := hb1.alloc hb1.size (.cells #[.pointer none, .slice none 0 0] 44)
  have HB2 := Lib.hid hb2
  have HE := Lib.hid hE
  have hsz1 := hb1.size
  clear hb1 HR hE hb2
  go_wp2_with fail
  generalize w1.alloc (.cells #[.pointer none, .slice none 0 0] 44) = w2 at HB2 HE ⊢
  generalize w1.heap.size = b at HE hsz1 ⊢
  go_loopw [6, 7] (fun vk vi wr => LsRel text gaps b w2 vk vi wr) (fun _ i _ => text.size - (intOf i).toNat)
  case atStart => exact ⟨0, 0, ⟨#[]⟩, Nat.zero_le _, rfl, rfl, Nat.le_refl _, rfl, Nat.le_refl _, HE.out, Below.refl _ _⟩
  case round =>
    clear HE
    obtain ⟨i, k, s, hi, rfl, rfl, hki, hlo, hsz, hE, hB⟩ := hrel
    have HE := Lib.hid hE
    have HB := Lib.hid hB
    have HLo := Lib.hid hlo
    have hblt := hE.lt
    clear hE hB hlo
    have hi0 : (0 : Int) ≤ (i : Int) := Int.natCast_nonneg _
    have hk0 : (0 : Int) ≤ (k : Int) := Int.natCast_nonneg _
    by_cases hlt : i < text.size
    · have hix := fun W => idx_str text i hlt W
      have hdr := getD_drop0 text i hlt
      generalize text.data.toList.getD i 0 = c at hix hdr
      obtain ⟨gv, k', hgv, hk', hst, hyes, hno⟩ := pre_step gaps k c (text.data.toList.drop (i + 1))
      have hst2 : looseL gaps 0 text.data.toList = s.data.toList ++ (pre (gv % 3) c ++ c :: looseL gaps k' (text.data.toList.drop (i + 1))) := by rw [HLo.out, hdr, hst]
      have HSt := Lib.hid hst2
      have HYes := Lib.hid hyes
      have HNo := Lib.hid hno
      clear hst hst2 hdr hyes hno
      have hi1 : (i : Int) < (text.size : Int) := by omega
      have cb10 : ((c.toNat : Int) == 10) = decide (c = 10) := by rw [Bool.eq_iff_iff, beq_iff_eq, decide_eq_true_eq]; exact ⟨fun h => by apply UInt8.toNat_inj.1; show c.toNat = 10; omega, fun h => by rw [h]; rfl⟩
      have cb32 : ((c.toNat : Int) == 32) = decide (c = 32) := by rw [Bool.eq_iff_iff, beq_iff_eq, decide_eq_true_eq]; exact ⟨fun h => by apply UInt8.toNat_inj.1; show c.toNat = 32; omega, fun h => by rw [h]; rfl⟩
      have H10 := Lib.hid cb10
      have H32 := Lib.hid cb32
      clear cb10 cb32
      go_upto_region 9 with fail
      go_cut [37] (fun x37 wx => x37 = .bool (decide ((c = 10 ∨ c = 32) ∧ gaps ≠ [])) ∧ wx = wr)
      case first =>
        by_cases h10 : c = 10
        · have hb10 := H10.out.trans (decide_eq_true h10)
          cases gaps with
          | nil =>
            go_wp2_with fail
            go_meet
            exact ⟨by rw [decide_eq_false (fun x => x.2 rfl)], rfl⟩
          | cons g0 gr =>
            have hgp : (0 : Int) < ((g0 :: gr).length : Int) := by simp only [List.length_cons]; omega
            have hgt : decide ((c = 10 ∨ c = 32) ∧ g0 :: gr ≠ []) = true := decide_eq_true ⟨.inl h10, by simp⟩
            have HGt := Lib.hid hgt
            clear h10 hgt
            go_wp2_with fail
            go_meet
            exact ⟨by rw [HGt.out], rfl⟩
        · have hb10 := H10.out.trans (decide_eq_false h10)
          by_cases h32 : c = 32
          · have hb32 := H32.out.trans (decide_eq_true h32)
            cases gaps with
            | nil =>
              go_wp2_with fail
              go_meet
              exact ⟨by rw [decide_eq_false (fun x => x.2 rfl)], rfl⟩
            | cons g0 gr =>
              have hgp : (0 : Int) < ((g0 :: gr).length : Int) := by simp only [List.length_cons]; omega
              have hgt : decide ((c = 10 ∨ c = 32) ∧ g0 :: gr ≠ []) = true := decide_eq_true ⟨.inr h32, by simp⟩
              have HGt := Lib.hid hgt
              clear h10 h32 hgt
              go_wp2_with fail
              go_meet
              exact ⟨by rw [HGt.out], rfl⟩
          · have hb32 := H32.out.trans (decide_eq_false h32)
            have hgt : decide ((c = 10 ∨ c = 32) ∧ gaps ≠ []) = false := decide_eq_false (fun x => x.1.elim h10 h32)
            have HGt := Lib.hid hgt
            clear h10 h32 hgt
            go_wp2_with fail
            go_meet
            exact ⟨by rw [HGt.out], rfl⟩
      case rest =>
        obtain ⟨rfl, rfl⟩ := hcut
        go_upto_if 37 with fail
        go_cut [6, 8] (fun x6 x8 wx => x6 = .int .i64 k' ∧ x8 = .int .u8 gv ∧ wx = wc)
        case first =>
          by_cases hc : (c = 10 ∨ c = 32) ∧ gaps ≠ []
          · obtain ⟨e1, e2⟩ := HYes.out hc
            have hgl : 0 < gaps.length := List.length_pos_iff.2 hc.2
            obtain ⟨q, hq⟩ : ∃ q, q = k % gaps.length := ⟨_, rfl⟩
            have hql : q < gaps.length := by rw [hq]; exact Nat.mod_lt _ hgl
            have hmod : (k : Int) % (gaps.length : Int) = (q : Int) := by rw [hq]; exact (Int.natCast_emod k gaps.length).symm
            have hmod2 : (k : Int).tmod (gaps.length : Int) = (q : Int) := by rw [Int.tmod_eq_emod_of_nonneg hk0]; exact hmod
            have hgc : gaps[q]? = some (gaps.getD q 0) := by rw [List.getElem?_eq_getElem hql, getD_of hql]
            obtain ⟨pb, po, rfl, hcell⟩ := HG.out q _ hgc
            have hcr := ((HB2.out.trans (HB.out.mono hsz1)).cell (cell_lt hcell)).trans hcell
            rw [← hq] at e2
            rw [← e2] at hcr
            have hdc := decide_eq_true hc
            have hgp : (0 : Int) < (gaps.length : Int) := by omega
            have hgnz : ((gaps.length : Int) == 0) = false := by rw [beq_eq_false_iff_ne]; omega
            have hq0 : (0 : Int) ≤ (q : Int) := Int.natCast_nonneg _
            have hq1 : (q : Int) < (gaps.length : Int) := by omega
            have E1 := Lib.hid e1
            clear hcell hgc e1 e2 hq
            go_wp2_with fail
            go_meet
            exact ⟨by rw [E1.out]; rfl, rfl, rfl⟩
          · obtain ⟨e1, e2⟩ := HNo.out hc
            have hdc := decide_eq_false hc
            have E1 := Lib.hid e1
            have E2 := Lib.hid e2
            clear e1 e2
            go_wp2_with fail
            go_meet
            exact ⟨by rw [E1.out], by rw [E2.out]; rfl, rfl⟩
        case rest =>
          obtain ⟨rfl, rfl, rfl⟩ := hcut
          obtain ⟨p1, p2, p3⟩ := pre_cases (gv % 3) c
          have hgm : (gv : Int) % 3 = ((gv % 3 : Nat) : Int) := (Int.natCast_emod gv 3).symm
          have hgv0 : (0 : Int) ≤ (gv : Int) := Int.natCast_nonneg _
          have hgv1 : (gv : Int) ≤ 255 := by omega
          by_cases h10 : c = 10
          case' pos => have hb10 := H10.out.trans (decide_eq_true h10)
          case' neg => have hb10 := H10.out.trans (decide_eq_false h10)
          case pos =>
            rcases (show gv % 3 = 0 ∨ gv % 3 = 1 ∨ gv % 3 = 2 by omega) with hm | hm | hm
            · have HPre := Lib.hid (p3 (by omega) (by omega))
              have hgi : (gv : Int) % 3 = 0 := by omega
              clear p1 p2 p3 hgm hm h10
              go_wp2_with fail
              refine (bwb_any b s c wc HE.out (by omega)).mono ?_
              rintro e w4 ⟨rfl, hE4, hb4⟩
              have hn : looseL gaps 0 text.data.toList = (s ++ ⟨#[c]⟩).data.toList ++ looseL gaps k' (text.data.toList.drop (i + 1)) := by
                rw [HSt.out, HPre.out, ba_app, List.append_assoc]
                rfl
              have HF := Lib.hid (And.intro hE4 (And.intro (HB.out.trans hb4) hn))
              clear hE4 hb4 hn
              go_wp2_with fail
              go_roundw
              case rel => exact ⟨i + 1, k', s ++ ⟨#[c]⟩, hlt, by go_num, rfl, by omega, HF.out.2.2, by rw [ByteArray.size_append, show (⟨#[c]⟩ : ByteArray).size = 1 from rfl]; omega, HF.out.1, HF.out.2.1⟩
              case measure => simp [intOf]; omega
            · have HPre := Lib.hid (p1 hm)
              have hgi : (gv : Int) % 3 = 1 := by omega
              clear p1 p2 p3 hgm hm h10
              go_wp2_with fail
              refine (bws_any b s twoB wc HE.out (by rw [show twoB.size = 2 from rfl]; omega)).mono ?_
              rintro e w3 ⟨rfl, hE3, hb3⟩
              have HE3 := Lib.hid hE3
              have HB3 := Lib.hid (HB.out.trans hb3)
              clear hE3 hb3
              go_wp2_with fail
              refine (bwb_any b (s ++ twoB) c w3 HE3.out (by rw [ByteArray.size_append, show twoB.size = 2 from rfl]; omega)).mono ?_
              rintro e w4 ⟨rfl, hE4, hb4⟩
              have hn : looseL gaps 0 text.data.toList = (s ++ twoB ++ ⟨#[c]⟩).data.toList ++ looseL gaps k' (text.data.toList.drop (i + 1)) := by
                rw [HSt.out, HPre.out, ba_app, ba_app, List.append_assoc, List.append_assoc]
                rfl
              have HF := Lib.hid (And.intro hE4 (And.intro (HB3.out.trans hb4) hn))
              clear hE4 hb4 hn
              go_wp2_with fail
              go_roundw
              case rel => exact ⟨i + 1, k', s ++ twoB ++ ⟨#[c]⟩, hlt, by go_num, rfl, by omega, HF.out.2.2, by rw [ByteArray.size_append, ByteArray.size_append, show twoB.size = 2 from rfl, show (⟨#[c]⟩ : ByteArray).size = 1 from rfl]; omega, HF.out.1, HF.out.2.1⟩
              case measure => simp [intOf]; omega
            · have HPre := Lib.hid (p2 (by omega) ⟨h10, hm⟩)
              have hgi : (gv : Int) % 3 = 2 := by omega
              clear p1 p2 p3 hgm hm h10
              go_wp2_with fail
              refine (bws_any b s flyB wc HE.out (by rw [show flyB.size = 9 from rfl]; omega)).mono ?_
              rintro e w3 ⟨rfl, hE3, hb3⟩
              have HE3 := Lib.hid hE3
              have HB3 := Lib.hid (HB.out.trans hb3)
              clear hE3 hb3
              go_wp2_with fail
              refine (bwb_any b (s ++ flyB) c w3 HE3.out (by rw [ByteArray.size_append, show flyB.size = 9 from rfl]; omega)).mono ?_
              rintro e w4 ⟨rfl, hE4, hb4⟩
              have hn : looseL gaps 0 text.data.toList = (s ++ flyB ++ ⟨#[c]⟩).data.toList ++ looseL gaps k' (text.data.toList.drop (i + 1)) := by
                rw [HSt.out, HPre.out, ba_app, ba_app, List.append_assoc, List.append_assoc]
                rfl
              have HF := Lib.hid (And.intro hE4 (And.intro (HB3.out.trans hb4) hn))
              clear hE4 hb4 hn
              go_wp2_with fail
              go_roundw
              case rel => exact ⟨i + 1, k', s ++ flyB ++ ⟨#[c]⟩, hlt, by go_num, rfl, by omega, HF.out.2.2, by rw [ByteArray.size_append, ByteArray.size_append, show flyB.size = 9 from rfl, show (⟨#[c]⟩ : ByteArray).size = 1 from rfl]; omega, HF.out.1, HF.out.2.1⟩
              case measure => simp [intOf]; omega
          case neg =>
            by_cases hm : gv % 3 = 1
            · have HPre := Lib.hid (p1 hm)
              have hgi : (gv : Int) % 3 = 1 := by omega
              clear p1 p2 p3 hgm hm h10
              go_wp2_with fail
              refine (bws_any b s twoB wc HE.out (by rw [show twoB.size = 2 from rfl]; omega)).mono ?_
              rintro e w3 ⟨rfl, hE3, hb3⟩
              have HE3 := Lib.hid hE3
              have HB3 := Lib.hid (HB.out.trans hb3)
              clear hE3 hb3
              go_wp2_with fail
              refine (bwb_any b (s ++ twoB) c w3 HE3.out (by rw [ByteArray.size_append, show twoB.size = 2 from rfl]; omega)).mono ?_
              rintro e w4 ⟨rfl, hE4, hb4⟩
              have hn : looseL gaps 0 text.data.toList = (s ++ twoB ++ ⟨#[c]⟩).data.toList ++ looseL gaps k' (text.data.toList.drop (i + 1)) := by
                rw [HSt.out, HPre.out, ba_app, ba_app, List.append_assoc, List.append_assoc]
                rfl
              have HF := Lib.hid (And.intro hE4 (And.intro (HB3.out.trans hb4) hn))
              clear hE4 hb4 hn
              go_wp2_with fail
              go_roundw
              case rel => exact ⟨i + 1, k', s ++ twoB ++ ⟨#[c]⟩, hlt, by go_num, rfl, by omega, HF.out.2.2, by rw [ByteArray.size_append, ByteArray.size_append, show twoB.size = 2 from rfl, show (⟨#[c]⟩ : ByteArray).size = 1 from rfl]; omega, HF.out.1, HF.out.2.1⟩
              case measure => simp [intOf]; omega
            · have HPre := Lib.hid (p3 hm (fun x => h10 x.1))
              have hgi : ((gv : Int) % 3 == 1) = false := by rw [beq_eq_false_iff_ne]; omega
              have hgi2 : ¬ (gv : Int) % 3 = 1 := by omega
              clear p1 p2 p3 hgm hm h10
              go_wp2_with fail
              refine (bwb_any b s c wc HE.out (by omega)).mono ?_
              rintro e w4 ⟨rfl, hE4, hb4⟩
              have hn : looseL gaps 0 text.data.toList = (s ++ ⟨#[c]⟩).data.toList ++ looseL gaps k' (text.data.toList.drop (i + 1)) := by
                rw [HSt.out, HPre.out, ba_app, List.append_assoc]
                rfl
              have HF := Lib.hid (And.intro hE4 (And.intro (HB.out.trans hb4) hn))
              clear hE4 hb4 hn
              go_wp2_with fail
              go_roundw
              case rel => exact ⟨i + 1, k', s ++ ⟨#[c]⟩, hlt, by go_num, rfl, by omega, HF.out.2.2, by rw [ByteArray.size_append, show (⟨#[c]⟩ : ByteArray).size = 1 from rfl]; omega, HF.out.1, HF.out.2.1⟩
              case measure => simp [intOf]; omega
    · obtain rfl : i = text.size := by omega
      have hlo := HLo.out
      rw [List.drop_eq_nil_of_le (by rw [← size_data]; omega)] at hlo
      have hs : s = looseB text gaps := by
        apply ba_ext
        unfold looseB
        rw [show looseL gaps k [] = [] from rfl, List.append_nil] at hlo
        exact hlo.symm
      have hBr := HB2.out.trans (HB.out.mono hsz1)
      have hp1 := sparse_own text wr (by omega) (HV.out.below hBr)
      have hfr : ∀ W, Below w.heap.size w W → Calls Tryd.prog 9 #[.string s] W (StepsPost s W) := fun W hW => sparse_any s W (by omega) (HV.out.below hW)
      have hpe := parse_err text
      have hpl := parse_loose text gaps
      rw [← hs] at hpl
      unfold StepsPostO at hp1
      unfold StepsPost at hfr
      generalize parseP text = P1 at hp1 hpe hpl
      generalize parseP s = P2 at hfr hpl
      obtain ⟨L1, n1, e1⟩ := P1
      obtain ⟨L2, n2, e2⟩ := P2
      dsimp only at hp1 hfr hpe hpl
      have HP1 := Lib.hid hp1
      have HFr := Lib.hid hfr
      have HBr := Lib.hid hBr
      have HS := Lib.hid (Tryd.Builder_String_any_k b b s.data.toList)
      have HPE := Lib.hid hpe
      have HPL := Lib.hid hpl
      clear hlo hs hp1 hfr hBr HLo hpe hpl
      go_wp2_with fail
      refine HP1.out.mono ?_
      rintro e w3 ⟨v3, D3, rfl, hO3, hk3, hD3, hl3, hb3⟩
      have hE3 := HE.out.below hb3
      have HE3 := Lib.hid hE3.f
      obtain ⟨p9, v9, -, hbk9, -⟩ := hE3
      have HBk := Lib.hid hbk9
      have HB3 := Lib.hid (HBr.out.trans (hb3.mono HBr.out.size))
      have HO3 := Lib.hid hO3
      have HK3 := Lib.hid hk3
      have HD3 := Lib.hid hD3
      have HL3 := Lib.hid hl3
      have hbw3 : b ≤ w3.heap.size := Nat.le_trans (Nat.le_of_lt hblt) hb3.size
      obtain ⟨ad3, cap3, hv3, -⟩ := OwnL.form hO3
      subst hv3
      clear hO3 hk3 hD3 hb3 HP1 HE hbk9 hl3
      go_wp2_with fail
      refine (HS.out w3 HE3.out hbw3).mono ?_
      rintro e w4 ⟨rfl, -, hb4, hoth⟩
      have hO4 : OwnSt w4 wr.heap.size _ D3 := own_others HO3.out hoth (by decide) HBk.out (by decide)
      have hkb : ∀ x ∈ L1.map (·.1), x.keep.length ≤ 9223372036854775807 := by
        intro x hx
        rw [← HD3.out] at hx
        obtain ⟨y, hy, rfl⟩ := List.mem_map.1 hx
        obtain ⟨_, _, _, h1, h2⟩ := OwnL.form (HK3.out y hy)
        exact Nat.le_trans h1 h2.1
      have HKb := Lib.hid hkb
      clear hkb
      have hk4 : ∀ x ∈ D3, OwnI w4 0 x.2 x.1.keep := fun x hx => own_others (HK3.out x hx) hoth (by decide) HBk.out (by decide)
      have hM4 := hO4.read hk4
      rw [HD3.out] at hM4
      have hB4 := HB3.out.trans (hb4.mono hsz1)
      have HM4 := Lib.hid hM4
      have HP2 := Lib.hid (HFr.out w4 hB4)
      have HB4 := Lib.hid hB4
      have hDl : D3.length = L1.length := by have h9 := congrArg List.length HD3.out; rwa [List.length_map, List.length_map] at h9
      rw [hDl] at *
      clear hO4 hk4 hM4 hoth hb4 hB4 HE3 HFr HS hDl
      go_wp2_with fail
      refine HP2.out.mono ?_
      rintro e w5 ⟨v5, rfl, hS5, hl5, hb5⟩
      have HM5 := Lib.hid (HM4.out.below hb5)
      have HS5 := Lib.hid hS5
      have HB5 := Lib.hid (HB4.out.trans (hb5.mono HB4.out.size))
      clear hS5 hb5 HP2 HM4
      by_cases h4 : e2 = 4
      · have h4b : (e2 == 4) = true := beq_iff_eq.2 h4
        rcases HPE.out with h0 | h0 | h0
        · subst h0
          subst h4
          go_wp2_with fail
          go_ret
          exact ⟨rfl, HB5.out⟩
        · subst h0
          subst h4
          go_wp2_with fail
          go_ret
          exact ⟨rfl, HB5.out⟩
        · subst h0
          subst h4
          go_wp2_with fail
          go_ret
          exact ⟨rfl, HB5.out⟩
      · obtain ⟨q1, q2⟩ := HPL.out h4
        have h4b : (e2 == 4) = false := beq_eq_false_iff_ne.2 h4
        have h4c : (e1 == 4) = false := by rw [q1]; exact h4b
        have h4d : ¬ e1 = 4 := by rw [q1]; exact h4
        have hl3 := HL3.out
        have hM5 := HM5.out
        have hDl : D3.length = L1.length := by have h9 := congrArg List.length HD3.out; rwa [List.length_map, List.length_map] at h9
        rw [hDl] at hM5
        have HSm := Lib.hid (same_any _ _ (L1.map (·.1)) w5 hM5 (by rw [q2]; exact HS5.out) (by omega) HKb.out)
        have hee : (e1 == e2) = true := by rw [q1]; exact beq_self_eq_true _
        clear q1 q2 hM5 hDl
        go_wp2_with fail
        refine HSm.out.mono ?_
        rintro e w6 ⟨rfl, hb6⟩
        have HB6 := Lib.hid (HB5.out.trans (hb6.mono HB5.out.size))
        clear hb6
        go_wp2_with fail
        go_ret
        exact ⟨rfl, HB6.out⟩
end Go.Proofs.YtffolbdimkhmmaaDoor
