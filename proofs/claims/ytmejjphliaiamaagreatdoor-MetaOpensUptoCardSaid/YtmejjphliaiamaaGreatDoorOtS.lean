import Derived.Test.YtmejjphliaiamaaGreatDoorOtN
import Derived.Test.YtmejjphliaiamaaGreatDoorMgC
import Derived.Test.YtmejjphliaiamaaGreatDoorSgS
set_option linter.unusedVariables false
namespace Go.Proofs.YtmejjphliaiamaaGreatDoor
open Go Go.RowKit Go.Lib Go.Sort

/-! ### whose signatures count -/
def sigVok (id text : ByteArray) (x : SigT) : Bool := decide (x.1 = id) && decide (verP id text x.2 = 0)
def whoL (ids : List ByteArray) (text : ByteArray) (L : List SigT) : List ByteArray := ids.filter fun id => L.any (sigVok id text)
def enoughB (S : SetT) (text : ByteArray) (L : List SigT) : Bool := setGood S && decide (S.2 ≤ (whoL S.1 text L).length)
theorem whoL_snoc (l : List ByteArray) (id text : ByteArray) (L : List SigT) : whoL (l ++ [id]) text L = whoL l text L ++ (if L.any (sigVok id text) = true then [id] else []) := by
  unfold whoL
  rw [List.filter_append]
  congr 1
  by_cases h : L.any (sigVok id text) = true
  · rw [if_pos h]; simp [List.filter, h]
  · rw [if_neg h]; simp [List.filter, h]
theorem below_appQ {α : Type} {e : TypeId} {size : Nat} {mk : α → List Value} {B : Nat} {w wr w' : World} {v : Value} {l : List α} (hb : Below B w wr) (hO : OwnL e size mk wr B v l) (hs : B ≤ wr.heap.size) (o : Obj) (hg : (wr.alloc o).grownBy w' v.ownBlock) : Below B w w' ∧ B ≤ w'.heap.size := by
  have hbase : B ≤ (wr.alloc o).heap.size := by rw [size_alloc]; omega
  exact ⟨(hb.alloc hs _).grown hg hbase (fun g hg => (hO.lt g hg).1), Nat.le_trans hbase hg.size⟩
theorem whoL_len (l : List ByteArray) (text : ByteArray) (L : List SigT) : (whoL l text L).length ≤ l.length := List.length_filter_le _ _

set_option maxRecDepth 100000 in
set_option maxHeartbeats 1000000 in
theorem whof_any (x : SigT) (pi pt : Nat) (id text : ByteArray) (w : World) (ht : text.size ≤ 100000000) (ci : w.cell? ⟨pi, 0, none⟩ = some (.string id)) (ct : w.cell? ⟨pt, 0, none⟩ = some (.string text)) :
    Calls Tryz.prog 151 #[sigV x, .pointer (some ⟨pi, 0, none⟩), .pointer (some ⟨pt, 0, none⟩)] w fun e w' => e = .returned (.bool (sigVok id text x)) ∧ Below w.heap.size w w' := by
  obtain ⟨R, hR⟩ : ∃ R, R = sigVok id text x := ⟨_, rfl⟩
  rw [← hR]
  unfold sigVok at hR
  unfold sigV
  have hv := verify_any id text x.2 ht
  have hcmp := toList_eqbV x.1 id
  obtain ⟨x1, x2⟩ := x
  dsimp only at *
  generalize verP id text x2 = v at hR hv
  have HV := Lib.hid hv
  have HR := Lib.hid hR
  have cia := fun o => cell_alloc ci o
  have cta := fun o => cell_alloc ct o
  clear hv hR
  go_enter Tryz.func151, Tryz.ntmps151
  by_cases h1 : x1 = id
  · rw [decide_eq_true h1] at hcmp
    have hr := HR.out
    rw [decide_eq_true h1, Bool.true_and] at hr
    have HR2 := Lib.hid hr
    clear hr HR h1
    go_wp2_with fail
    refine (HV.out _).mono ?_
    rintro e w1 ⟨rfl, hb1⟩
    have HB1 := Lib.hid (((Below.refl w.heap.size w).alloc (Nat.le_refl _) (.cells #[.string x1, .string x2] 54)).trans (hb1.mono (by simp)))
    clear hb1
    by_cases h0 : v = 0
    · have h0b : (v == 0) = true := beq_iff_eq.2 h0
      have hr := HR2.out
      rw [decide_eq_true h0] at hr
      have HR3 := Lib.hid hr
      clear hr HR2 h0
      go_wp2_with fail
      go_ret
      exact ⟨by rw [HR3.out]; rfl, HB1.out⟩
    · have h0b : (v == 0) = false := beq_eq_false_iff_ne.2 h0
      have hr := HR2.out
      rw [decide_eq_false h0] at hr
      have HR3 := Lib.hid hr
      clear hr HR2 h0
      go_wp2_with fail
      go_ret
      exact ⟨by rw [HR3.out]; rfl, HB1.out⟩
  · rw [decide_eq_false h1] at hcmp
    have hr := HR.out
    rw [decide_eq_false h1, Bool.false_and] at hr
    have HR2 := Lib.hid hr
    clear hr HR h1
    go_wp2_with fail
    go_ret
    exact ⟨by rw [HR2.out]; rfl, (Below.refl _ _).alloc (Nat.le_refl _) _⟩
def WhRel (ids : List ByteArray) (text : ByteArray) (L : List SigT) (w : World) (l i : Value) (wr : World) : Prop :=
  ∃ k : Nat, k ≤ ids.length ∧ i = .int .i64 k ∧ OwnS wr (w.heap.size + 2) l (whoL (ids.take k) text L) ∧ wr.cell? ⟨w.heap.size + 1, 0, none⟩ = some (.string text) ∧ Below w.heap.size w wr

set_option maxRecDepth 100000 in
set_option maxHeartbeats 1000000 in
theorem who_any (s : SV) (S : SetT) (text : ByteArray) (ad : Option Addr) (L : List SigT) (c : Nat) (w : World) (hS : SetM w s S) (hm : S.1.length ≤ 100000000) (hg : setGood S = true) (hL : SigsM w ad L) (hn : L.length ≤ 1000000) (ht : text.size ≤ 100000000) :
    Calls Tryz.prog 124 #[.agg #[.slice s.ad s.n s.c, .int .i64 s.need], .string text, .slice ad L.length c] w fun e w' => ∃ ad c, e = .returned (.slice ad (whoL S.1 text L).length c) ∧ Below w.heap.size w w' := by
  have HQ := Lib.hid (fun W (hW : Below w.heap.size w W) => qcheck_any s S W (hS.below hW) hm)
  have HL := Lib.hid hL
  have HSt := Lib.hid hS
  go_enter Tryz.func124, Tryz.ntmps124
  go_wp2_with fail
  refine (HQ.out _ (((Below.refl _ _).alloc (Nat.le_refl _) _).alloc (by simp) _)).mono ?_
  rintro e w1 ⟨rfl, hb1⟩
  have hk1 : w1.heap[w.heap.size]? = some (.cells #[.slice s.ad s.n s.c, .int .i64 s.need] 24 (0, 0)) := blk_later (blk_new1 w _ _) hb1
  have hk2 : w1.heap[w.heap.size + 1]? = some (.cells #[.string text] 9 (0, 0)) := blk_later (blk_new2 w _ _) hb1
  have hB1 : Below w.heap.size w w1 := (((Below.refl _ _).alloc (Nat.le_refl _) _).alloc (by simp) _).trans (hb1.mono (by simp; omega))
  have hchk : chkE (setGood S) = 0 := by rw [hg]; rfl
  have c0 : w1.cell? ⟨w.heap.size, 0, none⟩ = some (.slice s.ad s.n s.c) := cell_of_blk hk1 0 rfl
  have HK2 := Lib.hid (cell_of_blk hk2 0 rfl : w1.cell? ⟨w.heap.size + 1, 0, none⟩ = some (.string text))
  have HB1 := Lib.hid hB1
  have hsn : s.n = S.1.length := hS.1
  have hT := hS.2.2
  rw [hchk]
  clear hk1 hk2 hB1 hb1 HQ hchk hg HSt hS hL
  obtain ⟨sa, sn, sc, sneed⟩ := s
  obtain ⟨ids, need⟩ := S
  dsimp only at *
  subst hsn
  have HT := Lib.hid hT
  clear hT
  go_wp2_with fail
  go_loopw [7, 17] (fun l i wr => WhRel ids text L w l i wr) (fun _ i _ => ids.length - (intOf i).toNat)
  case atStart => exact ⟨0, Nat.zero_le _, rfl, ownL_nil _ _, HK2.out, HB1.out⟩
  case round =>
    obtain ⟨k, hk, rfl, hO, hct, hbel⟩ := hrel
    have HB := Lib.hid hbel
    have HO := Lib.hid hO
    have HCt := Lib.hid hct
    clear hbel hO hct HB1 HK2 c0
    by_cases hlt : k < ids.length
    · obtain ⟨pb, po, rfl, hcell⟩ := (HT.out.below HB.out) k ids[k] (List.getElem?_eq_getElem hlt)
      have htk : ids.take (k + 1) = ids.take k ++ [ids[k]] := List.take_succ_eq_append_getElem hlt
      generalize ids[k] = id at hcell htk
      have hsn := whoL_snoc (ids.take k) id text L
      rw [← htk] at hsn
      have Hsn := Lib.hid hsn
      have hlen : (whoL (ids.take k) text L).length ≤ 100000000 := Nat.le_trans (whoL_len _ _ _) (by rw [List.length_take]; omega)
      have hk0 : (0 : Int) ≤ (k : Int) := Int.natCast_nonneg _
      have hk1 : (k : Int) < (ids.length : Int) := by omega
      clear htk hsn
      go_wp2_with fail
      have hbx : Below w.heap.size w (wr.alloc (.cells #[.string id] 9)) := HB.out.alloc HB.out.size _
      have hix : (wr.alloc (.cells #[.string id] 9)).cell? ⟨wr.heap.size, 0, none⟩ = some (.string id) := cell_of_blk (blk_new _ _) 0 rfl
      have htx := cell_alloc HCt.out (.cells #[.string id] 9)
      have HO1 := Lib.hid (OwnL.alloc HO.out (.cells #[.string id] 9))
      generalize hqx : wr.heap.size = qx at hix ⊢
      generalize wr.alloc (.cells #[.string id] 9) = wx at hbx hix htx HO1 ⊢
      have hsc := sigcon_any 151 #[.pointer (some ⟨qx, 0, none⟩), .pointer (some ⟨w.heap.size + 1, 0, none⟩)] (fun args w => by kernel_rfl) (sigVok id text) ad L c wx (HL.out.below hbx) (by omega)
        (fun W x hW => whof_any x qx (w.heap.size + 1) id text W ht ((hW.cell (cell_lt hix)).trans hix) ((hW.cell (cell_lt htx)).trans htx))
      have HIx := Lib.hid hix
      have HTx := Lib.hid htx
      have HBx := Lib.hid hbx
      clear hbx hix htx HO HB HCt hcell hqx
      refine hsc.mono ?_
      rintro e w2 ⟨rfl, hb2⟩
      have HO2 := Lib.hid (OwnL.below HO1.out hb2)
      have HB2 := Lib.hid (HBx.out.trans (hb2.mono HBx.out.size))
      have ci2 : w2.cell? ⟨qx, 0, none⟩ = some (.string id) := (hb2.cell (cell_lt HIx.out)).trans HIx.out
      have HT2 := Lib.hid ((hb2.cell (cell_lt HTx.out)).trans HTx.out)
      clear hb2 hsc HO1 HIx HTx HBx
      cases hany : L.any (sigVok id text) with
      | true =>
        have hs2 := Hsn.out
        rw [hany, if_pos rfl] at hs2
        have Hs2 := Lib.hid hs2
        clear hs2 Hsn hany
        obtain ⟨i0, hi, hz0, hz1, hz2⟩ := info_parts infoStr
        have HI2 := Lib.hid hz2
        clear hz2
        go_wp2_with (first | (at_builtin; refine wpList_appL _ rfl _ _ 22 rfl i0 (.string ⟨#[]⟩) 16 Tryz.underlying22 hi hz0 hz1 HI2.out rfl (by decide) (w.heap.size + 2) _ (whoL (ids.take k) text L) rfl (OwnL.alloc HO2.out _) id rfl ⟨w2.heap.size, 0, none⟩ 1 rfl (one_str w2 _ _) ?_ ?_ (by decide) ?_ ?_) | fail)
        · intro u hu; simp at hu; subst hu; rfl
        · omega
        · rw [size_alloc]; have := cell_lt HT2.out; simp only at this; omega
        intro v4 w4 ho4 hg4 hown4
        have hB4 : Below w.heap.size w w4 := (HB2.out.alloc HB2.out.size _).grown hg4 (by rw [size_alloc]; have := HB2.out.size; omega) (fun g hg => by have := (OwnL.lt HO2.out g hg).1; omega)
        have hT4 : w4.cell? ⟨w.heap.size + 1, 0, none⟩ = some (.string text) := by
          have h1 := cell_alloc HT2.out (.cells #[.string id] 9)
          rw [← h1]
          exact World.cell?_of_block (hg4.block _ (cell_lt h1) (fun e => by have := (OwnL.lt HO2.out _ e.symm).1; simp only at this; omega))
        rw [← Hs2.out] at ho4
        have HO4 := Lib.hid ho4
        have HB4 := Lib.hid hB4
        have HT4 := Lib.hid hT4
        clear ho4 hB4 hT4 hg4 hown4 ci2
        go_wp2_with fail
        refine ⟨⟨k + 1, hlt, rfl, HO4.out, HT4.out, HB4.out⟩, ?_⟩
        show ids.length - ((k : Int) + 1).toNat < ids.length - (k : Int).toNat
        omega
      | false =>
        have hs2 := Hsn.out
        rw [hany, if_neg (by decide), List.append_nil] at hs2
        have HO3 := HO2.out
        rw [← hs2] at HO3
        have HO4 := Lib.hid HO3
        clear hs2 Hsn hany HO3 HO2
        go_wp2_with fail
        refine ⟨⟨k + 1, hlt, rfl, HO4.out, HT2.out, HB2.out⟩, ?_⟩
        show ids.length - ((k : Int) + 1).toNat < ids.length - (k : Int).toNat
        omega
    · obtain rfl : k = ids.length := by omega
      obtain ⟨ao, cap, rfl, -⟩ := OwnL.form HO.out
      rw [List.take_length]
      go_wp2_with fail
      go_ret
      exact ⟨⟨_, _, rfl⟩, HB.out⟩

set_option maxRecDepth 100000 in
set_option maxHeartbeats 1000000 in
theorem enough_any (s : SV) (S : SetT) (text : ByteArray) (ad : Option Addr) (L : List SigT) (c : Nat) (w : World) (hS : SetM w s S) (hm : S.1.length ≤ 100000000) (hL : SigsM w ad L) (hn : L.length ≤ 1000000) (ht : text.size ≤ 100000000) :
    Calls Tryz.prog 70 #[.agg #[.slice s.ad s.n s.c, .int .i64 s.need], .string text, .slice ad L.length c] w fun e w' => e = .returned (.bool (enoughB S text L)) ∧ Below w.heap.size w w' := by
  have HQ := Lib.hid (fun W (hW : Below w.heap.size w W) => qcheck_any s S W (hS.below hW) hm)
  have HWh := Lib.hid (fun (hg : setGood S = true) W (hW : Below w.heap.size w W) => who_any s S text ad L c W (hS.below hW) hm hg (hL.below hW) hn ht)
  have Hneed := Lib.hid (hS.2.1 : s.need = S.2)
  have hB : Below w.heap.size w (w.alloc (.cells #[.slice s.ad s.n s.c, .int .i64 s.need] 24)) := (Below.refl _ _).alloc (Nat.le_refl _) _
  have c0 : (w.alloc (.cells #[.slice s.ad s.n s.c, .int .i64 s.need] 24)).cell? ⟨w.heap.size, 0, none⟩ = some (.slice s.ad s.n s.c) := cell_of_blk (blk_new _ _) 0 rfl
  have c1 : (w.alloc (.cells #[.slice s.ad s.n s.c, .int .i64 s.need] 24)).cell? ⟨w.heap.size, 1, none⟩ = some (.int .i64 s.need) := cell_of_blk (blk_new _ _) 1 rfl
  obtain ⟨R, hR⟩ : ∃ R, R = enoughB S text L := ⟨_, rfl⟩
  rw [← hR]
  unfold enoughB at hR
  have HR := Lib.hid hR
  clear hR
  go_enter Tryz.func70, Tryz.ntmps70
  go_wp2_with fail
  generalize w.alloc (.cells #[.slice s.ad s.n s.c, .int .i64 s.need] 24) = w1 at hB c0 c1 ⊢
  generalize w.heap.size = b at c0 c1 ⊢
  have HB := Lib.hid hB
  clear hB hS hL
  cases hg : setGood S with
  | true =>
    have hgood := hg
    rw [hg, Bool.true_and] at HR
    generalize (whoL S.1 text L).length = N at HR HWh
    refine wp_region_facts 13 20 (FtF 0 [.v (.agg #[.slice s.ad s.n s.c, .int .i64 s.need]), .v (.int .i64 0), .v (.bool true), .v (.bool true), .v (.agg #[.slice s.ad s.n s.c, .int .i64 s.need]), .v (.string text), .v (.slice ad L.length c), .sl N, .v (.int .i64 N), .v (.pointer (some ⟨b, 1, none⟩)), .v (.int .i64 s.need), .v (.bool (decide (s.need ≤ N))), .v (.bool (decide (s.need ≤ N)))]) (by kernel_rfl) (by kernel_rfl) rfl (FtF.stable _ _) ⟨?_, ?_, ?_, ?_, ?_, ?_, ?_, ?_, ?_, ?_, ?_, ?_, ?_, trivial⟩ ?_
    · refine fstep_any (fun _ _ _ => rfl) fun ev w2 hb hc hs hp => ⟨_, ?_, rfl⟩
      have e3 : ev (.tmp 3) = .pointer (some ⟨b, 0, none⟩) := hs 3 (by kernel_rfl)
      have d0 := (hb.cell (cell_lt c0)).trans c0
      have d1 := (hb.cell (cell_lt c1)).trans c1
      simp only [execOp, Sem.run_bind, e3]
      go_simp
    · exact fstep_call 87 #[.tmp 7] _ rfl (fun _ _ _ => rfl) #[.agg #[.slice s.ad s.n s.c, .int .i64 s.need]] (fun w => by kernel_rfl) fun ev w2 hb hc hs hp =>
        ⟨by simp only [List.map_toArray, List.map_cons, List.map_nil, show ev (.tmp 7) = .agg #[.slice s.ad s.n s.c, .int .i64 s.need] from hp 0 _ _ (by decide) rfl (by kernel_rfl) rfl],
          (HQ.out w2 (HB.out.trans (hb.mono HB.out.size))).mono fun e w3 ⟨he, hb⟩ => ⟨_, he, hb, by rw [hgood]; rfl⟩⟩
    · refine fstep_any (fun _ _ _ => rfl) fun ev w2 hb hc hs hp => ⟨_, ?_, rfl⟩
      have e8 : ev (.tmp 8) = .int .i64 0 := hp 1 _ _ (by decide) rfl (by kernel_rfl) rfl
      have hc0 := hc (.int .i64 0)
      simp only [execOp, Sem.run_bind, e8, hc0]
      go_simp
    · exact fstep_move (.tmp 9) rfl (fun _ _ _ => rfl) fun ev w2 hc hs hp => hp 2 _ _ (by decide) rfl (by kernel_rfl) rfl
    · refine fstep_any (fun ev w2 hp => wanted_of 3 true rfl (evY_of rfl (hp 3 _ _ (by decide) rfl (by kernel_rfl) rfl))) fun ev w2 hb hc hs hp => ⟨_, ?_, rfl⟩
      have e3 : ev (.tmp 3) = .pointer (some ⟨b, 0, none⟩) := hs 3 (by kernel_rfl)
      have d0 := (hb.cell (cell_lt c0)).trans c0
      have d1 := (hb.cell (cell_lt c1)).trans c1
      simp only [execOp, Sem.run_bind, e3]
      go_simp
    · exact fstep_move (.tmp 1) rfl (fun ev w2 hp => wanted_of 3 true rfl (evY_of rfl (hp 3 _ _ (by decide) rfl (by kernel_rfl) rfl))) fun ev w2 hc hs hp => hs 1 (by kernel_rfl)
    · exact fstep_move (.tmp 2) rfl (fun ev w2 hp => wanted_of 3 true rfl (evY_of rfl (hp 3 _ _ (by decide) rfl (by kernel_rfl) rfl))) fun ev w2 hc hs hp => hs 2 (by kernel_rfl)
    · exact fstep_call 124 #[.tmp 11, .tmp 12, .tmp 13] _ rfl (fun ev w2 hp => wanted_of 3 true rfl (evY_of rfl (hp 3 _ _ (by decide) rfl (by kernel_rfl) rfl))) #[.agg #[.slice s.ad s.n s.c, .int .i64 s.need], .string text, .slice ad L.length c] (fun w => by kernel_rfl) fun ev w2 hb hc hs hp =>
        ⟨by simp only [List.map_toArray, List.map_cons, List.map_nil, show ev (.tmp 11) = .agg #[.slice s.ad s.n s.c, .int .i64 s.need] from hp 4 _ _ (by decide) rfl (by kernel_rfl) rfl, show ev (.tmp 12) = .string text from hp 5 _ _ (by decide) rfl (by kernel_rfl) rfl, show ev (.tmp 13) = .slice ad L.length c from hp 6 _ _ (by decide) rfl (by kernel_rfl) rfl],
          (HWh.out hgood w2 (HB.out.trans (hb.mono HB.out.size))).mono fun e w3 ⟨a3, c3, he, hb⟩ => ⟨_, he, hb, a3, c3, rfl⟩⟩
    · refine fstep_any (fun ev w2 hp => wanted_of 3 true rfl (evY_of rfl (hp 3 _ _ (by decide) rfl (by kernel_rfl) rfl))) fun ev w2 hb hc hs hp => ⟨.int .i64 N, ?_, rfl⟩
      obtain ⟨a3, c3, e14⟩ : ∃ a3 c3, ev (.tmp 14) = .slice a3 N c3 := hp 7 _ _ (by decide) rfl (by kernel_rfl) rfl
      simp only [execOp, Sem.run_bind, resolve, List.map_toArray, List.map_cons, List.map_nil, e14]
      go_simp
    · refine fstep_any (fun ev w2 hp => wanted_of 3 true rfl (evY_of rfl (hp 3 _ _ (by decide) rfl (by kernel_rfl) rfl))) fun ev w2 hb hc hs hp => ⟨.pointer (some ⟨b, 1, none⟩), ?_, rfl⟩
      have e3 : ev (.tmp 3) = .pointer (some ⟨b, 0, none⟩) := hs 3 (by kernel_rfl)
      simp only [execOp, Sem.run_bind, e3]
      go_simp
    · refine fstep_any (fun ev w2 hp => wanted_of 3 true rfl (evY_of rfl (hp 3 _ _ (by decide) rfl (by kernel_rfl) rfl))) fun ev w2 hb hc hs hp => ⟨_, ?_, rfl⟩
      have e16 : ev (.tmp 16) = .pointer (some ⟨b, 1, none⟩) := hp 9 _ _ (by decide) rfl (by kernel_rfl) rfl
      have d1 := (hb.cell (cell_lt c1)).trans c1
      simp only [execOp, Sem.run_bind, e16]
      go_simp
    · refine fstep_any (fun ev w2 hp => wanted_of 3 true rfl (evY_of rfl (hp 3 _ _ (by decide) rfl (by kernel_rfl) rfl))) fun ev w2 hb hc hs hp => ⟨_, ?_, rfl⟩
      have e15 : ev (.tmp 15) = .int .i64 N := hp 8 _ _ (by decide) rfl (by kernel_rfl) rfl
      have e17 : ev (.tmp 17) = .int .i64 s.need := hp 10 _ _ (by decide) rfl (by kernel_rfl) rfl
      simp only [execOp, Sem.run_bind, e15, e17]
      go_simp
    · refine fstep_any (fun _ _ _ => rfl) fun ev w2 hb hc hs hp => ⟨_, ?_, rfl⟩
      have e10 : ev (.tmp 10) = .bool true := hp 3 _ _ (by decide) rfl (by kernel_rfl) rfl
      have e18 : ev (.tmp 18) = .bool (decide (s.need ≤ N)) := hp 11 _ _ (by decide) rfl (by kernel_rfl) rfl
      simp only [execOp, Sem.run_bind, e10, e18]
      go_simp
    intro a' w2 H
    have HB2 := Lib.hid (HB.out.trans (H.below.mono HB.out.size))
    have e19 : a'.tmps.getD 19 undef = .bool (decide (s.need ≤ N)) := H.facts 12 _ _ (by decide) rfl (by kernel_rfl) rfl
    rw [act_list 20 [0, 1, 2, 3, 4, 5, 6, 7, 8, 9, 10, 11, 12, 13, 14, 15, 16, 17, 18, 19] rfl H.size]
    simp only [List.map_cons, List.map_nil, e19, H.defers, H.same 0 (by kernel_rfl), H.same 1 (by kernel_rfl), H.same 2 (by kernel_rfl), H.same 3 (by kernel_rfl), H.same 4 (by kernel_rfl), H.same 5 (by kernel_rfl), H.same 6 (by kernel_rfl)]
    simp only [Array.getD_eq_getD_getElem?, List.getElem?_toArray, List.getElem?_cons_zero, List.getElem?_cons_succ, Option.getD_some]
    clear e19 H
    show wpList _ _ _ _ _ _
    go_wp2_with fail
    go_ret
    exact ⟨by rw [HR.out, Hneed.out]; rfl, HB2.out⟩
  | false =>
    have hr := HR.out
    rw [hg, Bool.false_and] at hr
    have HR2 := Lib.hid hr
    have hbad := hg
    clear hr HR hg HWh
    refine wp_region_facts 13 20 (FtF 0 [.v (.agg #[.slice s.ad s.n s.c, .int .i64 s.need]), .v (.int .i64 1), .v (.bool false), .v (.bool false), .v undef, .v undef, .v undef, .v undef, .v undef, .v undef, .v undef, .v undef, .v (.bool false)]) (by kernel_rfl) (by kernel_rfl) rfl (FtF.stable _ _) ⟨?_, ?_, ?_, ?_, ?_, ?_, ?_, ?_, ?_, ?_, ?_, ?_, ?_, trivial⟩ ?_
    · refine fstep_any (fun _ _ _ => rfl) fun ev w2 hb hc hs hp => ⟨_, ?_, rfl⟩
      have e3 : ev (.tmp 3) = .pointer (some ⟨b, 0, none⟩) := hs 3 (by kernel_rfl)
      have d0 := (hb.cell (cell_lt c0)).trans c0
      have d1 := (hb.cell (cell_lt c1)).trans c1
      simp only [execOp, Sem.run_bind, e3]
      go_simp
    · exact fstep_call 87 #[.tmp 7] _ rfl (fun _ _ _ => rfl) #[.agg #[.slice s.ad s.n s.c, .int .i64 s.need]] (fun w => by kernel_rfl) fun ev w2 hb hc hs hp =>
        ⟨by simp only [List.map_toArray, List.map_cons, List.map_nil, show ev (.tmp 7) = .agg #[.slice s.ad s.n s.c, .int .i64 s.need] from hp 0 _ _ (by decide) rfl (by kernel_rfl) rfl],
          (HQ.out w2 (HB.out.trans (hb.mono HB.out.size))).mono fun e w3 ⟨he, hb⟩ => ⟨_, he, hb, by rw [hbad]; rfl⟩⟩
    · refine fstep_any (fun _ _ _ => rfl) fun ev w2 hb hc hs hp => ⟨_, ?_, rfl⟩
      have e8 : ev (.tmp 8) = .int .i64 1 := hp 1 _ _ (by decide) rfl (by kernel_rfl) rfl
      have hc0 := hc (.int .i64 0)
      simp only [execOp, Sem.run_bind, e8, hc0]
      go_simp
    · exact fstep_move (.tmp 9) rfl (fun _ _ _ => rfl) fun ev w2 hc hs hp => hp 2 _ _ (by decide) rfl (by kernel_rfl) rfl
    · exact fstep_not (fun ev w2 hp => unwanted_of 3 true rfl (evY_of rfl (hp 3 _ _ (by decide) rfl (by kernel_rfl) rfl))) (fun w => rfl)
    · exact fstep_not (fun ev w2 hp => unwanted_of 3 true rfl (evY_of rfl (hp 3 _ _ (by decide) rfl (by kernel_rfl) rfl))) (fun w => rfl)
    · exact fstep_not (fun ev w2 hp => unwanted_of 3 true rfl (evY_of rfl (hp 3 _ _ (by decide) rfl (by kernel_rfl) rfl))) (fun w => rfl)
    · exact fstep_not (fun ev w2 hp => unwanted_of 3 true rfl (evY_of rfl (hp 3 _ _ (by decide) rfl (by kernel_rfl) rfl))) (fun w => rfl)
    · exact fstep_not (fun ev w2 hp => unwanted_of 3 true rfl (evY_of rfl (hp 3 _ _ (by decide) rfl (by kernel_rfl) rfl))) (fun w => rfl)
    · exact fstep_not (fun ev w2 hp => unwanted_of 3 true rfl (evY_of rfl (hp 3 _ _ (by decide) rfl (by kernel_rfl) rfl))) (fun w => rfl)
    · exact fstep_not (fun ev w2 hp => unwanted_of 3 true rfl (evY_of rfl (hp 3 _ _ (by decide) rfl (by kernel_rfl) rfl))) (fun w => rfl)
    · exact fstep_not (fun ev w2 hp => unwanted_of 3 true rfl (evY_of rfl (hp 3 _ _ (by decide) rfl (by kernel_rfl) rfl))) (fun w => rfl)
    · refine fstep_any (fun _ _ _ => rfl) fun ev w2 hb hc hs hp => ⟨_, ?_, rfl⟩
      have e10 : ev (.tmp 10) = .bool false := hp 3 _ _ (by decide) rfl (by kernel_rfl) rfl
      have hc0 := hc (.bool false)
      simp only [execOp, Sem.run_bind, e10, hc0]
      go_simp
    intro a' w2 H
    have HB2 := Lib.hid (HB.out.trans (H.below.mono HB.out.size))
    have e19 : a'.tmps.getD 19 undef = .bool false := H.facts 12 _ _ (by decide) rfl (by kernel_rfl) rfl
    rw [act_list 20 [0, 1, 2, 3, 4, 5, 6, 7, 8, 9, 10, 11, 12, 13, 14, 15, 16, 17, 18, 19] rfl H.size]
    simp only [List.map_cons, List.map_nil, e19, H.defers, H.same 0 (by kernel_rfl), H.same 1 (by kernel_rfl), H.same 2 (by kernel_rfl), H.same 3 (by kernel_rfl), H.same 4 (by kernel_rfl), H.same 5 (by kernel_rfl), H.same 6 (by kernel_rfl)]
    simp only [Array.getD_eq_getD_getElem?, List.getElem?_toArray, List.getElem?_cons_zero, List.getElem?_cons_succ, Option.getD_some]
    clear e19 H
    show wpList _ _ _ _ _ _
    go_wp2_with fail
    go_ret
    exact ⟨by rw [HR2.out]; rfl, HB2.out⟩

structure WqRel (sv : Array Value) (ids : List ByteArray) (text : ByteArray) (L : List SigT) (k : Nat) (w : World) (l : Value) (wr : World) : Prop where
  own : OwnS wr (w.heap.size + 1) l (whoL (ids.take k) text L)
  set : wr.heap[w.heap.size]? = some (.cells sv 24 (0, 0))
  below : Below w.heap.size w wr
def RwRel (sv : Array Value) (ids : List ByteArray) (text : ByteArray) (L : List SigT) (w : World) (l i : Value) (wr : World) : Prop :=
  ∃ k : Nat, k ≤ ids.length ∧ i = .int .i64 k ∧ WqRel sv ids text L k w l wr
def RxRel (sv : Array Value) (ids : List ByteArray) (id text : ByteArray) (L : List SigT) (k : Nat) (w : World) (l i : Value) (wr : World) : Prop :=
  ∃ m : Nat, m ≤ L.length ∧ i = .int .i64 m ∧ (L.take m).any (sigVok id text) = false ∧ WqRel sv ids text L k w l wr

set_option maxRecDepth 100000 in
set_option maxHeartbeats 1000000 in
theorem rwho_any (s : SV) (S : SetT) (text : ByteArray) (ad : Option Addr) (L : List SigT) (c : Nat) (w : World) (hS : SetM w s S) (hm : S.1.length ≤ 100000000) (hg : setGood S = true) (hL : SigsM w ad L) (hn : L.length ≤ 1000000) (ht : text.size ≤ 100000000) :
    Calls Tryz.prog 125 #[.agg #[.slice s.ad s.n s.c, .int .i64 s.need], .string text, .slice ad L.length c] w fun e w' => ∃ ad c, e = .returned (.slice ad (whoL S.1 text L).length c) ∧ Below w.heap.size w w' := by
  have HQ := Lib.hid (fun W (hW : Below w.heap.size w W) => rqcheck_any s S W (hS.below hW) hm)
  have HL := Lib.hid hL
  have HSt := Lib.hid hS
  go_enter Tryz.func125, Tryz.ntmps125
  go_wp2_with fail
  refine (HQ.out _ ((Below.refl _ _).alloc (Nat.le_refl _) _)).mono ?_
  rintro e w1 ⟨rfl, hb1⟩
  have hk1 : w1.heap[w.heap.size]? = some (.cells #[.slice s.ad s.n s.c, .int .i64 s.need] 24 (0, 0)) := blk_later (blk_new w _) hb1
  have hB1 : Below w.heap.size w w1 := ((Below.refl _ _).alloc (Nat.le_refl _) _).trans (hb1.mono (by simp))
  have hchk : chkE (setGood S) = 0 := by rw [hg]; rfl
  have HB1 := Lib.hid hB1
  have hsn : s.n = S.1.length := hS.1
  have hT := hS.2.2
  rw [hchk]
  obtain ⟨sa, sn, sc, sneed⟩ := s
  obtain ⟨ids, need⟩ := S
  dsimp only at *
  subst hsn
  have HT := Lib.hid hT
  have HK1 := Lib.hid hk1
  clear hk1 hB1 hb1 HQ hchk hg HSt hS hL hT
  go_wp2_with fail
  go_loopw [7, 8] (fun l i wr => RwRel #[.slice sa ids.length sc, .int .i64 sneed] ids text L w l i wr) (fun _ i _ => ids.length - (intOf i).toNat)
  case atStart => exact ⟨0, Nat.zero_le _, rfl, ownL_nil _ _, HK1.out, HB1.out⟩
  case round =>
    obtain ⟨k, hk, rfl, hW⟩ := hrel
    have HW := Lib.hid hW
    have c0 : wr.cell? ⟨w.heap.size, 0, none⟩ = some (.slice sa ids.length sc) := cell_of_blk hW.set 0 rfl
    clear hW HB1 HK1
    by_cases hlt : k < ids.length
    · have hids := HT.out k ids[k] (List.getElem?_eq_getElem hlt)
      have htk : ids.take (k + 1) = ids.take k ++ [ids[k]] := List.take_succ_eq_append_getElem hlt
      generalize ids[k] = id at hids htk
      have hsn := whoL_snoc (ids.take k) id text L
      rw [← htk] at hsn
      have Hsn := Lib.hid hsn
      have hlen : (whoL (ids.take k) text L).length ≤ 100000000 := Nat.le_trans (whoL_len _ _ _) (by rw [List.length_take]; omega)
      obtain ⟨pb, po, rfl, hcw⟩ := hids
      have HCw := Lib.hid hcw
      have hk0 : (0 : Int) ≤ (k : Int) := Int.natCast_nonneg _
      have hk1 : (k : Int) < (ids.length : Int) := by omega
      clear htk hsn hcw
      go_wp2_with fail
      go_loopw [7, 9] (fun l i wr => RxRel #[.slice (some ⟨pb, po, none⟩) ids.length sc, .int .i64 sneed] ids id text L k w l i wr) (fun _ i _ => L.length - (intOf i).toNat)
      case atStart => exact ⟨0, Nat.zero_le _, rfl, rfl, HW.out⟩
      case round =>
        obtain ⟨m, hm2, rfl, hany, hW2⟩ := hrel
        have HW2 := Lib.hid hW2
        have HAn := Lib.hid hany
        have d0 : wr.cell? ⟨w.heap.size, 0, none⟩ = some (.slice (some ⟨pb, po, none⟩) ids.length sc) := cell_of_blk hW2.set 0 rfl
        clear hW2 hany HW c0
        by_cases hlt2 : m < L.length
        · obtain ⟨qb, qo, rfl, s0, s1⟩ := (HL.out.below HW2.out.below) m L[m] (List.getElem?_eq_getElem hlt2)
          have htk2 : L.take (m + 1) = L.take m ++ [L[m]] := List.take_succ_eq_append_getElem hlt2
          have hmem : L[m] ∈ L := List.getElem_mem hlt2
          have hq0 : (0 : Int) ≤ (m : Int) := Int.natCast_nonneg _
          have hq1 : (m : Int) < (L.length : Int) := by omega
          have ci : wr.cell? ⟨pb, po + k, none⟩ = some (.string id) := (HW2.out.below.cell (cell_lt HCw.out)).trans HCw.out
          generalize L[m] = x at s0 s1 htk2 hmem
          obtain ⟨x1, x2⟩ := x
          have s0r := cell_regrown s0
          have s1r := cell_regrown s1
          have d0r := cell_regrown d0
          have cir := cell_regrown ci
          have hso : sigVok id text (x1, x2) = (decide (x1 = id) && decide (verP id text x2 = 0)) := rfl
          have hcmp := toList_eqbV x1 id
          have hv := rverify_any id text x2 ht
          generalize verP id text x2 = v at hso hv
          have Hso := Lib.hid hso
          have HTk := Lib.hid htk2
          have HMem := Lib.hid hmem
          have cP : ∀ dd os, Calls Tryz.prog 153 #[.string id, .string text, .string x2] (grow (redrawn wr dd) os) fun e w'' => e = .returned (.int .i64 v) ∧ ∃ p : Regrown, w'' = grow (redrawn wr p.d) p.os :=
            fun dd os => Calls.regrown_of (hv _)
          clear hso htk2 hmem hv
          go_wp2_with fail
          by_cases h1 : x1 = id
          · rw [decide_eq_true h1] at hcmp
            refine wp_region_quiet_below (by kernel_rfl) (by kernel_rfl) ?_
            repeat quiet_step (with_reducible exact cP _ _)
            refine wpQuiet_nil ?_
            intro w5 hw5
            obtain ⟨⟨dq, osq⟩, hw''⟩ := hw5
            have hb5 : Below wr.heap.size wr w5 := by rw [hw'']; exact below_regrown wr dq osq
            have HW5 := Lib.hid (⟨OwnL.below HW2.out.own hb5, blk_later HW2.out.set hb5, HW2.out.below.trans (hb5.mono HW2.out.below.size)⟩ : WqRel #[.slice (some ⟨pb, po, none⟩) ids.length sc, .int .i64 sneed] ids text L k w u7 w5)
            clear hw'' hb5 s0 s1 s0r s1r d0 d0r ci cir cP HW2
            by_cases h0 : v = 0
            · have h0b : (v == 0) = true := beq_iff_eq.2 h0
              have hany2 : L.any (sigVok id text) = true := List.any_eq_true.2 ⟨_, HMem.out, by rw [Hso.out, decide_eq_true h1, decide_eq_true h0]; rfl⟩
              have hs2 := Hsn.out
              rw [hany2, if_pos rfl] at hs2
              have Hs2 := Lib.hid hs2
              have d5 : w5.cell? ⟨w.heap.size, 0, none⟩ = some (.slice (some ⟨pb, po, none⟩) ids.length sc) := cell_of_blk HW5.out.set 0 rfl
              have c5 : w5.cell? ⟨pb, po + k, none⟩ = some (.string id) := (HW5.out.below.cell (cell_lt HCw.out)).trans HCw.out
              clear hany2 hs2 Hsn h1 h0
              obtain ⟨i0, hi, hz0, hz1, hz2⟩ := info_parts infoStr
              have HI2 := Lib.hid hz2
              clear hz2
              go_wp2_with (first | (at_builtin; refine wpList_appL _ rfl _ _ 22 rfl i0 (.string ⟨#[]⟩) 16 Tryz.underlying22 hi hz0 hz1 HI2.out rfl (by decide) (w.heap.size + 1) _ (whoL (ids.take k) text L) rfl (OwnL.alloc HW5.out.own _) id rfl ⟨w5.heap.size, 0, none⟩ 1 rfl (one_str w5 _ _) ?_ ?_ (by decide) ?_ ?_) | fail)
              · intro u hu; simp at hu; subst hu; rfl
              · omega
              · rw [size_alloc]; have := cell_lt d5; simp only at this; omega
              intro v4 w4 ho4 hg4 hown4
              rw [← Hs2.out] at ho4
              have HW6 := Lib.hid (⟨ho4, (hg4.block _ (by rw [size_alloc]; have := cell_lt d5; simp only at this; omega) (fun e => by have := (OwnL.lt HW5.out.own _ e.symm).1; omega)).trans (blk_alloc HW5.out.set _),
                (HW5.out.below.alloc HW5.out.below.size _).grown hg4 (by rw [size_alloc]; have := HW5.out.below.size; omega) (fun g hg => by have := (OwnL.lt HW5.out.own g hg).1; omega)⟩ : WqRel #[.slice (some ⟨pb, po, none⟩) ids.length sc, .int .i64 sneed] ids text L (k + 1) w v4 w4)
              clear ho4 hg4 hown4 HW5 d5 c5
              go_wp2_with fail
              refine ⟨⟨k + 1, hlt, rfl, HW6.out⟩, ?_⟩
              show ids.length - ((k : Int) + 1).toNat < ids.length - (k : Int).toNat
              omega
            · have h0b : (v == 0) = false := beq_eq_false_iff_ne.2 h0
              have hany2 : (L.take (m + 1)).any (sigVok id text) = false := by
                rw [HTk.out, List.any_append, HAn.out, Bool.false_or, List.any_cons, Hso.out, decide_eq_false h0, Bool.and_false, List.any_nil]
                rfl
              have HAn2 := Lib.hid hany2
              clear hany2
              go_wp2_with fail
              refine ⟨⟨m + 1, hlt2, rfl, HAn2.out, HW5.out⟩, ?_⟩
              show L.length - ((m : Int) + 1).toNat < L.length - (m : Int).toNat
              omega
          · rw [decide_eq_false h1] at hcmp
            refine wp_region_quiet_below (by kernel_rfl) (by kernel_rfl) ?_
            repeat go_big_quiet_step (fail)
            refine wpQuiet_nil ?_
            intro w5 hw5
            obtain ⟨⟨dq, osq⟩, hw''⟩ := hw5
            have hb5 : Below wr.heap.size wr w5 := by rw [hw'']; exact below_regrown wr dq osq
            have HW5 := Lib.hid (⟨OwnL.below HW2.out.own hb5, blk_later HW2.out.set hb5, HW2.out.below.trans (hb5.mono HW2.out.below.size)⟩ : WqRel #[.slice (some ⟨pb, po, none⟩) ids.length sc, .int .i64 sneed] ids text L k w u7 w5)
            clear hw'' hb5 s0 s1 s0r s1r d0 d0r ci cir cP HW2
            have hany2 : (L.take (m + 1)).any (sigVok id text) = false := by
              rw [HTk.out, List.any_append, HAn.out, Bool.false_or, List.any_cons, Hso.out, decide_eq_false h1, Bool.false_and, List.any_nil]
              rfl
            have HAn2 := Lib.hid hany2
            clear hany2
            go_wp2_with fail
            refine ⟨⟨m + 1, hlt2, rfl, HAn2.out, HW5.out⟩, ?_⟩
            show L.length - ((m : Int) + 1).toNat < L.length - (m : Int).toNat
            omega
        · obtain rfl : m = L.length := by omega
          have hany2 := HAn.out
          rw [List.take_length] at hany2
          have hs2 := Hsn.out
          rw [hany2, if_neg (by decide), List.append_nil] at hs2
          have hW3 := HW2.out
          have HW3 := Lib.hid (⟨by rw [hs2]; exact hW3.own, hW3.set, hW3.below⟩ : WqRel #[.slice (some ⟨pb, po, none⟩) ids.length sc, .int .i64 sneed] ids text L (k + 1) w u7 wr)
          clear hany2 hs2 Hsn hW3 HW2 d0 HAn
          go_wp2_with fail
          refine ⟨⟨k + 1, hlt, rfl, HW3.out⟩, ?_⟩
          show ids.length - ((k : Int) + 1).toNat < ids.length - (k : Int).toNat
          omega
    · obtain rfl : k = ids.length := by omega
      have hW := HW.out
      have ho := hW.own
      rw [List.take_length] at ho
      obtain ⟨ao, cap, rfl, -⟩ := OwnL.form ho
      have HBz := Lib.hid hW.below
      clear hW ho HW
      go_wp2_with fail
      go_ret
      exact ⟨⟨_, _, rfl⟩, HBz.out⟩
set_option maxRecDepth 100000 in
set_option maxHeartbeats 1000000 in
theorem renough_any (s : SV) (S : SetT) (text : ByteArray) (ad : Option Addr) (L : List SigT) (c : Nat) (w : World) (hS : SetM w s S) (hm : S.1.length ≤ 100000000) (hL : SigsM w ad L) (hn : L.length ≤ 1000000) (ht : text.size ≤ 100000000) :
    Calls Tryz.prog 71 #[.agg #[.slice s.ad s.n s.c, .int .i64 s.need], .string text, .slice ad L.length c] w fun e w' => e = .returned (.bool (enoughB S text L)) ∧ Below w.heap.size w w' := by
  have HQ := Lib.hid (fun W (hW : Below w.heap.size w W) => rqcheck_any s S W (hS.below hW) hm)
  have HWh := Lib.hid (fun (hg : setGood S = true) W (hW : Below w.heap.size w W) => rwho_any s S text ad L c W (hS.below hW) hm hg (hL.below hW) hn ht)
  have Hneed := Lib.hid (hS.2.1 : s.need = S.2)
  have hB : Below w.heap.size w (w.alloc (.cells #[.slice s.ad s.n s.c, .int .i64 s.need] 24)) := (Below.refl _ _).alloc (Nat.le_refl _) _
  have c0 : (w.alloc (.cells #[.slice s.ad s.n s.c, .int .i64 s.need] 24)).cell? ⟨w.heap.size, 0, none⟩ = some (.slice s.ad s.n s.c) := cell_of_blk (blk_new _ _) 0 rfl
  have c1 : (w.alloc (.cells #[.slice s.ad s.n s.c, .int .i64 s.need] 24)).cell? ⟨w.heap.size, 1, none⟩ = some (.int .i64 s.need) := cell_of_blk (blk_new _ _) 1 rfl
  obtain ⟨R, hR⟩ : ∃ R, R = enoughB S text L := ⟨_, rfl⟩
  rw [← hR]
  unfold enoughB at hR
  have HR := Lib.hid hR
  clear hR
  go_enter Tryz.func71, Tryz.ntmps71
  go_wp2_with fail
  generalize w.alloc (.cells #[.slice s.ad s.n s.c, .int .i64 s.need] 24) = w1 at hB c0 c1 ⊢
  generalize w.heap.size = b at c0 c1 ⊢
  have HB := Lib.hid hB
  clear hB hS hL
  cases hg : setGood S with
  | true =>
    have hgood := hg
    rw [hg, Bool.true_and] at HR
    generalize (whoL S.1 text L).length = N at HR HWh
    refine wp_region_facts 13 20 (FtF 0 [.v (.agg #[.slice s.ad s.n s.c, .int .i64 s.need]), .v (.int .i64 0), .v (.bool true), .v (.bool true), .v (.agg #[.slice s.ad s.n s.c, .int .i64 s.need]), .v (.string text), .v (.slice ad L.length c), .sl N, .v (.int .i64 N), .v (.pointer (some ⟨b, 1, none⟩)), .v (.int .i64 s.need), .v (.bool (decide (s.need ≤ N))), .v (.bool (decide (s.need ≤ N)))]) (by kernel_rfl) (by kernel_rfl) rfl (FtF.stable _ _) ⟨?_, ?_, ?_, ?_, ?_, ?_, ?_, ?_, ?_, ?_, ?_, ?_, ?_, trivial⟩ ?_
    · refine fstep_any (fun _ _ _ => rfl) fun ev w2 hb hc hs hp => ⟨_, ?_, rfl⟩
      have e3 : ev (.tmp 3) = .pointer (some ⟨b, 0, none⟩) := hs 3 (by kernel_rfl)
      have d0 := (hb.cell (cell_lt c0)).trans c0
      have d1 := (hb.cell (cell_lt c1)).trans c1
      simp only [execOp, Sem.run_bind, e3]
      go_simp
    · exact fstep_call 90 #[.tmp 7] _ rfl (fun _ _ _ => rfl) #[.agg #[.slice s.ad s.n s.c, .int .i64 s.need]] (fun w => by kernel_rfl) fun ev w2 hb hc hs hp =>
        ⟨by simp only [List.map_toArray, List.map_cons, List.map_nil, show ev (.tmp 7) = .agg #[.slice s.ad s.n s.c, .int .i64 s.need] from hp 0 _ _ (by decide) rfl (by kernel_rfl) rfl],
          (HQ.out w2 (HB.out.trans (hb.mono HB.out.size))).mono fun e w3 ⟨he, hb⟩ => ⟨_, he, hb, by rw [hgood]; rfl⟩⟩
    · refine fstep_any (fun _ _ _ => rfl) fun ev w2 hb hc hs hp => ⟨_, ?_, rfl⟩
      have e8 : ev (.tmp 8) = .int .i64 0 := hp 1 _ _ (by decide) rfl (by kernel_rfl) rfl
      have hc0 := hc (.int .i64 0)
      simp only [execOp, Sem.run_bind, e8, hc0]
      go_simp
    · exact fstep_move (.tmp 9) rfl (fun _ _ _ => rfl) fun ev w2 hc hs hp => hp 2 _ _ (by decide) rfl (by kernel_rfl) rfl
    · refine fstep_any (fun ev w2 hp => wanted_of 3 true rfl (evY_of rfl (hp 3 _ _ (by decide) rfl (by kernel_rfl) rfl))) fun ev w2 hb hc hs hp => ⟨_, ?_, rfl⟩
      have e3 : ev (.tmp 3) = .pointer (some ⟨b, 0, none⟩) := hs 3 (by kernel_rfl)
      have d0 := (hb.cell (cell_lt c0)).trans c0
      have d1 := (hb.cell (cell_lt c1)).trans c1
      simp only [execOp, Sem.run_bind, e3]
      go_simp
    · exact fstep_move (.tmp 1) rfl (fun ev w2 hp => wanted_of 3 true rfl (evY_of rfl (hp 3 _ _ (by decide) rfl (by kernel_rfl) rfl))) fun ev w2 hc hs hp => hs 1 (by kernel_rfl)
    · exact fstep_move (.tmp 2) rfl (fun ev w2 hp => wanted_of 3 true rfl (evY_of rfl (hp 3 _ _ (by decide) rfl (by kernel_rfl) rfl))) fun ev w2 hc hs hp => hs 2 (by kernel_rfl)
    · exact fstep_call 125 #[.tmp 11, .tmp 12, .tmp 13] _ rfl (fun ev w2 hp => wanted_of 3 true rfl (evY_of rfl (hp 3 _ _ (by decide) rfl (by kernel_rfl) rfl))) #[.agg #[.slice s.ad s.n s.c, .int .i64 s.need], .string text, .slice ad L.length c] (fun w => by kernel_rfl) fun ev w2 hb hc hs hp =>
        ⟨by simp only [List.map_toArray, List.map_cons, List.map_nil, show ev (.tmp 11) = .agg #[.slice s.ad s.n s.c, .int .i64 s.need] from hp 4 _ _ (by decide) rfl (by kernel_rfl) rfl, show ev (.tmp 12) = .string text from hp 5 _ _ (by decide) rfl (by kernel_rfl) rfl, show ev (.tmp 13) = .slice ad L.length c from hp 6 _ _ (by decide) rfl (by kernel_rfl) rfl],
          (HWh.out hgood w2 (HB.out.trans (hb.mono HB.out.size))).mono fun e w3 ⟨a3, c3, he, hb⟩ => ⟨_, he, hb, a3, c3, rfl⟩⟩
    · refine fstep_any (fun ev w2 hp => wanted_of 3 true rfl (evY_of rfl (hp 3 _ _ (by decide) rfl (by kernel_rfl) rfl))) fun ev w2 hb hc hs hp => ⟨.int .i64 N, ?_, rfl⟩
      obtain ⟨a3, c3, e14⟩ : ∃ a3 c3, ev (.tmp 14) = .slice a3 N c3 := hp 7 _ _ (by decide) rfl (by kernel_rfl) rfl
      simp only [execOp, Sem.run_bind, resolve, List.map_toArray, List.map_cons, List.map_nil, e14]
      go_simp
    · refine fstep_any (fun ev w2 hp => wanted_of 3 true rfl (evY_of rfl (hp 3 _ _ (by decide) rfl (by kernel_rfl) rfl))) fun ev w2 hb hc hs hp => ⟨.pointer (some ⟨b, 1, none⟩), ?_, rfl⟩
      have e3 : ev (.tmp 3) = .pointer (some ⟨b, 0, none⟩) := hs 3 (by kernel_rfl)
      simp only [execOp, Sem.run_bind, e3]
      go_simp
    · refine fstep_any (fun ev w2 hp => wanted_of 3 true rfl (evY_of rfl (hp 3 _ _ (by decide) rfl (by kernel_rfl) rfl))) fun ev w2 hb hc hs hp => ⟨_, ?_, rfl⟩
      have e16 : ev (.tmp 16) = .pointer (some ⟨b, 1, none⟩) := hp 9 _ _ (by decide) rfl (by kernel_rfl) rfl
      have d1 := (hb.cell (cell_lt c1)).trans c1
      simp only [execOp, Sem.run_bind, e16]
      go_simp
    · refine fstep_any (fun ev w2 hp => wanted_of 3 true rfl (evY_of rfl (hp 3 _ _ (by decide) rfl (by kernel_rfl) rfl))) fun ev w2 hb hc hs hp => ⟨_, ?_, rfl⟩
      have e15 : ev (.tmp 15) = .int .i64 N := hp 8 _ _ (by decide) rfl (by kernel_rfl) rfl
      have e17 : ev (.tmp 17) = .int .i64 s.need := hp 10 _ _ (by decide) rfl (by kernel_rfl) rfl
      simp only [execOp, Sem.run_bind, e15, e17]
      go_simp
    · refine fstep_any (fun _ _ _ => rfl) fun ev w2 hb hc hs hp => ⟨_, ?_, rfl⟩
      have e10 : ev (.tmp 10) = .bool true := hp 3 _ _ (by decide) rfl (by kernel_rfl) rfl
      have e18 : ev (.tmp 18) = .bool (decide (s.need ≤ N)) := hp 11 _ _ (by decide) rfl (by kernel_rfl) rfl
      simp only [execOp, Sem.run_bind, e10, e18]
      go_simp
    intro a' w2 H
    have HB2 := Lib.hid (HB.out.trans (H.below.mono HB.out.size))
    have e19 : a'.tmps.getD 19 undef = .bool (decide (s.need ≤ N)) := H.facts 12 _ _ (by decide) rfl (by kernel_rfl) rfl
    rw [act_list 20 [0, 1, 2, 3, 4, 5, 6, 7, 8, 9, 10, 11, 12, 13, 14, 15, 16, 17, 18, 19] rfl H.size]
    simp only [List.map_cons, List.map_nil, e19, H.defers, H.same 0 (by kernel_rfl), H.same 1 (by kernel_rfl), H.same 2 (by kernel_rfl), H.same 3 (by kernel_rfl), H.same 4 (by kernel_rfl), H.same 5 (by kernel_rfl), H.same 6 (by kernel_rfl)]
    simp only [Array.getD_eq_getD_getElem?, List.getElem?_toArray, List.getElem?_cons_zero, List.getElem?_cons_succ, Option.getD_some]
    clear e19 H
    show wpList _ _ _ _ _ _
    go_wp2_with fail
    go_ret
    exact ⟨by rw [HR.out, Hneed.out]; rfl, HB2.out⟩
  | false =>
    have hr := HR.out
    rw [hg, Bool.false_and] at hr
    have HR2 := Lib.hid hr
    have hbad := hg
    clear hr HR hg HWh
    refine wp_region_facts 13 20 (FtF 0 [.v (.agg #[.slice s.ad s.n s.c, .int .i64 s.need]), .v (.int .i64 1), .v (.bool false), .v (.bool false), .v undef, .v undef, .v undef, .v undef, .v undef, .v undef, .v undef, .v undef, .v (.bool false)]) (by kernel_rfl) (by kernel_rfl) rfl (FtF.stable _ _) ⟨?_, ?_, ?_, ?_, ?_, ?_, ?_, ?_, ?_, ?_, ?_, ?_, ?_, trivial⟩ ?_
    · refine fstep_any (fun _ _ _ => rfl) fun ev w2 hb hc hs hp => ⟨_, ?_, rfl⟩
      have e3 : ev (.tmp 3) = .pointer (some ⟨b, 0, none⟩) := hs 3 (by kernel_rfl)
      have d0 := (hb.cell (cell_lt c0)).trans c0
      have d1 := (hb.cell (cell_lt c1)).trans c1
      simp only [execOp, Sem.run_bind, e3]
      go_simp
    · exact fstep_call 90 #[.tmp 7] _ rfl (fun _ _ _ => rfl) #[.agg #[.slice s.ad s.n s.c, .int .i64 s.need]] (fun w => by kernel_rfl) fun ev w2 hb hc hs hp =>
        ⟨by simp only [List.map_toArray, List.map_cons, List.map_nil, show ev (.tmp 7) = .agg #[.slice s.ad s.n s.c, .int .i64 s.need] from hp 0 _ _ (by decide) rfl (by kernel_rfl) rfl],
          (HQ.out w2 (HB.out.trans (hb.mono HB.out.size))).mono fun e w3 ⟨he, hb⟩ => ⟨_, he, hb, by rw [hbad]; rfl⟩⟩
    · refine fstep_any (fun _ _ _ => rfl) fun ev w2 hb hc hs hp => ⟨_, ?_, rfl⟩
      have e8 : ev (.tmp 8) = .int .i64 1 := hp 1 _ _ (by decide) rfl (by kernel_rfl) rfl
      have hc0 := hc (.int .i64 0)
      simp only [execOp, Sem.run_bind, e8, hc0]
      go_simp
    · exact fstep_move (.tmp 9) rfl (fun _ _ _ => rfl) fun ev w2 hc hs hp => hp 2 _ _ (by decide) rfl (by kernel_rfl) rfl
    · exact fstep_not (fun ev w2 hp => unwanted_of 3 true rfl (evY_of rfl (hp 3 _ _ (by decide) rfl (by kernel_rfl) rfl))) (fun w => rfl)
    · exact fstep_not (fun ev w2 hp => unwanted_of 3 true rfl (evY_of rfl (hp 3 _ _ (by decide) rfl (by kernel_rfl) rfl))) (fun w => rfl)
    · exact fstep_not (fun ev w2 hp => unwanted_of 3 true rfl (evY_of rfl (hp 3 _ _ (by decide) rfl (by kernel_rfl) rfl))) (fun w => rfl)
    · exact fstep_not (fun ev w2 hp => unwanted_of 3 true rfl (evY_of rfl (hp 3 _ _ (by decide) rfl (by kernel_rfl) rfl))) (fun w => rfl)
    · exact fstep_not (fun ev w2 hp => unwanted_of 3 true rfl (evY_of rfl (hp 3 _ _ (by decide) rfl (by kernel_rfl) rfl))) (fun w => rfl)
    · exact fstep_not (fun ev w2 hp => unwanted_of 3 true rfl (evY_of rfl (hp 3 _ _ (by decide) rfl (by kernel_rfl) rfl))) (fun w => rfl)
    · exact fstep_not (fun ev w2 hp => unwanted_of 3 true rfl (evY_of rfl (hp 3 _ _ (by decide) rfl (by kernel_rfl) rfl))) (fun w => rfl)
    · exact fstep_not (fun ev w2 hp => unwanted_of 3 true rfl (evY_of rfl (hp 3 _ _ (by decide) rfl (by kernel_rfl) rfl))) (fun w => rfl)
    · refine fstep_any (fun _ _ _ => rfl) fun ev w2 hb hc hs hp => ⟨_, ?_, rfl⟩
      have e10 : ev (.tmp 10) = .bool false := hp 3 _ _ (by decide) rfl (by kernel_rfl) rfl
      have hc0 := hc (.bool false)
      simp only [execOp, Sem.run_bind, e10, hc0]
      go_simp
    intro a' w2 H
    have HB2 := Lib.hid (HB.out.trans (H.below.mono HB.out.size))
    have e19 : a'.tmps.getD 19 undef = .bool false := H.facts 12 _ _ (by decide) rfl (by kernel_rfl) rfl
    rw [act_list 20 [0, 1, 2, 3, 4, 5, 6, 7, 8, 9, 10, 11, 12, 13, 14, 15, 16, 17, 18, 19] rfl H.size]
    simp only [List.map_cons, List.map_nil, e19, H.defers, H.same 0 (by kernel_rfl), H.same 1 (by kernel_rfl), H.same 2 (by kernel_rfl), H.same 3 (by kernel_rfl), H.same 4 (by kernel_rfl), H.same 5 (by kernel_rfl), H.same 6 (by kernel_rfl)]
    simp only [Array.getD_eq_getD_getElem?, List.getElem?_toArray, List.getElem?_cons_zero, List.getElem?_cons_succ, Option.getD_some]
    clear e19 H
    show wpList _ _ _ _ _ _
    go_wp2_with fail
    go_ret
    exact ⟨by rw [HR2.out]; rfl, HB2.out⟩
end Go.Proofs.YtmejjphliaiamaaGreatDoor
