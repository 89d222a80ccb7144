import Derived.Test.YtmejjphliaiamaaGreatDoorMeJ
set_option linter.unusedVariables false
set_option linter.unusedSimpArgs false
namespace Go.Proofs.YtmejjphliaiamaaGreatDoor
open Go Go.RowKit Go.Lib

/-! ### targets -/
def tgOk (last : Int) (t : TgtT) : Bool := decide (last < t.1 ∧ t.1 ≤ 255 ∧ 0 ≤ t.2.1 ∧ t.2.1 < 1024 ∧ t.2.2.size = 32)
def tgsB : Int → List TgtT → Bool
  | _, [] => true
  | last, t :: r => tgOk last t && tgsB t.1 r
def goodTg (L : List TgtT) : Bool := tgsB 0 L && decide (L.length ≤ 64)
def TgRel (L : List TgtT) (w0 : World) (la i : Value) (wr : World) : Prop := ∃ (k : Nat) (last : Int), k ≤ L.length ∧ la = .int .i64 last ∧ i = .int .i64 k ∧ tgsB 0 L = tgsB last (L.drop k) ∧ Below w0.heap.size w0 wr
theorem enter_gg : Ent 96 := fun args w => by kernel_rfl
theorem enter_gl : Ent 97 := fun args w => by kernel_rfl
theorem enter_gt : Ent 98 := fun args w => by kernel_rfl
theorem enter_gz : Ent 99 := fun args w => by kernel_rfl
set_option maxRecDepth 100000 in
set_option maxHeartbeats 4000000 in
theorem goodtg_any (b : Nat) (d : DV) (L : List TgtT) (w : World) (h : DocAt w b d) (hn : d.ln = L.length) (hL : TgM w d.lad L) (hm : L.length ≤ 100000000) : Calls Tryz.prog 96 #[.pointer (some ⟨b, 0, none⟩)] w fun e w' => e = .returned (.bool (goodTg L)) ∧ Below w.heap.size w w' := by
  have HD := Lib.hid h
  have HN := Lib.hid hn
  have HL := Lib.hid hL
  have c15 := cell_of_blk h 15 (v := .slice d.lad d.ln d.lc) rfl
  rw [hn] at c15
  clear h hn hL
  obtain ⟨R, hR⟩ : ∃ R, R = goodTg L := ⟨_, rfl⟩
  rw [← hR]
  unfold goodTg at hR
  have HR := Lib.hid hR
  clear hR
  go_enter Tryz.func96, Tryz.ntmps96
  go_wp2_with fail
  clear c15
  go_loopw [3, 11] (fun la i wr => TgRel L w la i wr) (fun _ i _ => L.length - (intOf i).toNat)
  case atStart => exact ⟨0, 0, Nat.zero_le _, rfl, rfl, rfl, Below.refl _ _⟩
  case round =>
    obtain ⟨k, last, hk, rfl, rfl, hg, hb⟩ := hrel
    have HG := Lib.hid hg
    have HB := Lib.hid hb
    have HDr := Lib.hid (HD.out.later hb)
    clear hg hb
    by_cases hlt : k < L.length
    case pos =>
      obtain ⟨pb, po, ea, s0, s1, s2⟩ := (HL.out.below HB.out) k L[k] (List.getElem?_eq_getElem hlt)
      rw [ea]
      have hdrop : L.drop k = L[k] :: L.drop (k + 1) := List.drop_eq_getElem_cons hlt
      generalize L[k] = t at s0 s1 s2 hdrop
      have hgd : tgsB 0 L = (tgOk last t && tgsB t.1 (L.drop (k + 1))) := by rw [HG.out, hdrop]; rfl
      have hbad : tgOk last t = false → R = false := fun h => by rw [HR.out, hgd, h]; rfl
      have HBad := Lib.hid hbad
      have HGd := Lib.hid hgd
      have hk0 : (0 : Int) ≤ (k : Int) := Int.natCast_nonneg _
      have hk1 : (k : Int) < (L.length : Int) := by omega
      have hB2 : ∀ o, Below w.heap.size w (wr.alloc o) := fun o => HB.out.alloc HB.out.size o
      clear hdrop hgd hbad ea
      by_cases h1 : t.1 ≤ last
      · have HX := Lib.hid (HBad.out (decide_eq_false (fun h => by omega)))
        go_wp2_with fail
        go_ret
        rw [HX.out]
        exact ⟨rfl, hB2 _⟩
      by_cases h2 : 255 < t.1
      · have HX := Lib.hid (HBad.out (decide_eq_false (fun h => by omega)))
        go_wp2_with fail
        go_ret
        rw [HX.out]
        exact ⟨rfl, hB2 _⟩
      by_cases h3 : t.2.1 < 0
      · have HX := Lib.hid (HBad.out (decide_eq_false (fun h => by omega)))
        go_wp2_with fail
        go_ret
        rw [HX.out]
        exact ⟨rfl, hB2 _⟩
      by_cases h4 : 1024 ≤ t.2.1
      · have HX := Lib.hid (HBad.out (decide_eq_false (fun h => by omega)))
        go_wp2_with fail
        go_ret
        rw [HX.out]
        exact ⟨rfl, hB2 _⟩
      by_cases h5 : (t.2.2.size : Int) = 32
      · have b1 : ((t.2.2.size : Int) == 32) = true := beq_iff_eq.2 h5
        have b2 : ((t.2.2.size : Int) != 32) = false := by rw [bne, b1]; rfl
        have hok : tgOk last t = true := decide_eq_true ⟨by omega, by omega, by omega, by omega, by omega⟩
        have HX := Lib.hid (show tgsB 0 L = tgsB t.1 (L.drop (k + 1)) from by rw [HGd.out, hok]; rfl)
        clear hok h5
        go_wp2_with fail
        refine ⟨⟨k + 1, t.1, hlt, rfl, rfl, HX.out, hB2 _⟩, ?_⟩
        show L.length - ((k : Int) + 1).toNat < L.length - (k : Int).toNat
        omega
      · have b1 : ((t.2.2.size : Int) == 32) = false := beq_eq_false_iff_ne.2 h5
        have b2 : ((t.2.2.size : Int) != 32) = true := by rw [bne, b1]; rfl
        have HX := Lib.hid (HBad.out (decide_eq_false (fun h => by omega)))
        clear h5
        go_wp2_with fail
        go_ret
        rw [HX.out]
        exact ⟨rfl, hB2 _⟩
    case neg =>
      obtain rfl : k = L.length := by omega
      have hall : tgsB 0 L = true := by rw [HG.out, List.drop_length]; rfl
      have hR : R = decide (L.length ≤ 64) := by rw [HR.out, hall]; rfl
      have c15 := cell_of_blk HDr.out 15 (v := .slice d.lad d.ln d.lc) rfl
      rw [HN.out] at c15
      clear hall
      by_cases h64 : (L.length : Int) ≤ 64
      · have HX : Hid (R = true) := Lib.hid (by rw [hR]; exact decide_eq_true (by omega))
        clear hR
        go_wp2_with fail
        go_ret
        rw [HX.out]
        exact ⟨rfl, HB.out⟩
      · have HX : Hid (R = false) := Lib.hid (by rw [hR]; exact decide_eq_false (by omega))
        clear hR
        go_wp2_with fail
        go_ret
        rw [HX.out]
        exact ⟨rfl, HB.out⟩
set_option maxRecDepth 100000 in
theorem zero2_any (b : Nat) (d : DV) (w : World) (h : DocAt w b d) : Calls Tryz.prog 99 #[.pointer (some ⟨b, 0, none⟩)] w fun e w' => e = .returned (.tuple #[]) ∧ DocK b { d with lad := none, ln := 0, lc := 0 } w w' := by
  have c15 := cell_of_blk h 15 (v := .slice d.lad d.ln d.lc) rfl
  have f15 := free_of_blk h 15
  have HD : Hid (DocK b { d with lad := none, ln := 0, lc := 0 } w (w.setCell ⟨b, 15, none⟩ (.slice none 0 0))) := Lib.hid ⟨blk_set h _, (Kp.refl (fun k => k = b) w).setCell (p := ⟨b, 15, none⟩) (.inl rfl) _⟩
  clear h
  go_enter Tryz.func99, Tryz.ntmps99
  go_wp2_with fail
  go_end0
  exact ⟨rfl, HD.out⟩

/-! ### targets laid -/
def lt1 (q : WS) (t : TgtT) : WS := wNum q t.1 1
def lt2 (q : WS) (t : TgtT) : WS := wNum (lt1 q t) t.2.1 2
def lt3 (q : WS) (t : TgtT) : WS := pHash (lt2 q t) t.2.2
def layTg (L : List TgtT) (q : WS) : WS := L.foldl lt3 (wNum q L.length 1)
def tgZ : List TgtT → Nat
  | [] => 0
  | x :: r => x.2.2.size + 3 + tgZ r
theorem lt_size (q : WS) (t : TgtT) : (lt1 q t).1.size ≤ q.1.size + 1 ∧ (lt2 q t).1.size ≤ q.1.size + 3 ∧ (lt3 q t).1.size ≤ q.1.size + t.2.2.size + 3 := by
  have h1 : (lt1 q t).1.size ≤ _ := wNum_size q t.1 1
  have h2 : (lt2 q t).1.size ≤ _ := wNum_size (lt1 q t) t.2.1 2
  have h3 : (lt3 q t).1.size = (lt2 q t).1.size + t.2.2.size := by unfold lt3 pHash; exact ByteArray.size_append
  omega
theorem foldT_size : ∀ (L : List TgtT) (q : WS), (L.foldl lt3 q).1.size ≤ q.1.size + tgZ L
  | [], q => Nat.le_refl _
  | x :: r, q => by
    have h1 := foldT_size r (lt3 q x)
    have h2 := (lt_size q x).2.2
    show (r.foldl lt3 (lt3 q x)).1.size ≤ q.1.size + (x.2.2.size + 3 + tgZ r)
    omega
theorem tgZ_get : ∀ (L : List TgtT) (k : Nat) (h : k < L.length), tgZ (L.take k) + (L[k].2.2.size + 3) ≤ tgZ L
  | x :: r, 0, h => by simp [tgZ]
  | x :: r, k + 1, h => by
    have := tgZ_get r k (by simpa using h)
    rw [List.take_succ_cons, tgZ, tgZ, List.getElem_cons_succ]
    omega
def LtRel (w0 : World) (b : Nat) (Lp : List (Nat × Array Value × TypeId)) (q : WS) (L : List TgtT) (i : Value) (wr : World) : Prop := ∃ k : Nat, k ≤ L.length ∧ i = .int .i64 k ∧ WG 75 w0.heap.size w0 wr b Lp ((L.take k).foldl lt3 q)

set_option maxRecDepth 100000 in
set_option maxHeartbeats 4000000 in
theorem laytg_any (d : DV) (L : List TgtT) (w0 : World) (hn : d.ln = L.length) (hL : TgM w0 d.lad L) (hm : L.length ≤ 1000000) (hz : tgZ L ≤ 1000000000) (hi : ∀ t ∈ L, I64 t.1 ∧ I64 t.2.1) : LayC 97 d (layTg L) w0 := by
  intro W wb q db Lp hm2 hq hG
  have hd : DocAt W db d := (hG.par _ hm2).1
  have c15 := cell_of_blk hd 15 (v := .slice d.lad d.ln d.lc) rfl
  rw [hn] at c15
  have HL := Lib.hid hL
  have HN := Lib.hid hn
  have HI := Lib.hid hi
  have HM := Lib.hid hm2
  have HG := Lib.hid hG
  obtain ⟨v, hv⟩ := hG.ex
  have HV := Lib.hid hv
  have hq1 := wNum_size q L.length 1
  clear hL hG hv hd hn hi hm2
  have e0 : layTg L q = L.foldl lt3 (wNum q L.length 1) := rfl
  rw [e0]
  clear e0
  go_enter Tryz.func97, Tryz.ntmps97
  go_wp2_with fail
  refine (pw1_any _ wb v q L.length W (by omega) (by omega) HV.out).mono ?_
  rintro e w1 ⟨rfl, hk⟩
  have hg1 := HG.out.step HV.out hk
  have HG1 := Lib.hid hg1
  have hd1 : DocAt w1 db d := (hg1.par _ HM.out).1
  clear c15
  have c15 := cell_of_blk hd1 15 (v := .slice d.lad d.ln d.lc) rfl
  rw [HN.out] at c15
  clear hk HV HG hg1 hd1
  generalize hE : wNum q L.length 1 = q1 at hq1 HG1
  have HE := Lib.hid hE
  clear hE
  go_wp2_with fail
  clear c15
  go_loopw [18] (fun i wr => LtRel w0 wb Lp q1 L i wr) (fun i _ => L.length - (intOf i).toNat)
  case atStart => exact ⟨0, Nat.zero_le _, rfl, HG1.out⟩
  case round =>
    clear HG1
    obtain ⟨k, hk, rfl, hG⟩ := hrel
    have HG := Lib.hid hG
    clear hG
    by_cases hlt : k < L.length
    case pos =>
      obtain ⟨pb, po, ea, s0, s1, s2⟩ := (HL.out.below HG.out.below) k L[k] (List.getElem?_eq_getElem hlt)
      rw [ea]
      have hzg := tgZ_get L k hlt
      have hfs := foldT_size (L.take k) q1
      have htk : (L.take (k + 1)).foldl lt3 q1 = lt3 ((L.take k).foldl lt3 q1) L[k] := by rw [List.take_succ_eq_append_getElem hlt, List.foldl_append]; rfl
      have HTk := Lib.hid htk
      obtain ⟨hi1, hi2⟩ := HI.out L[k] (List.getElem_mem hlt)
      generalize L[k] = t at s0 s1 s2 hzg HTk hi1 hi2
      generalize (L.take k).foldl lt3 q1 = cur at HG HTk hfs
      obtain ⟨y1, y2, y3⟩ := lt_size cur t
      have hk0 : (0 : Int) ≤ (k : Int) := Int.natCast_nonneg _
      have hk1 : (k : Int) < (L.length : Int) := by omega
      have hcz : cur.1.size + t.2.2.size + 3 ≤ 2000000000 := by omega
      have HI1 := Lib.hid hi1
      have HI2 := Lib.hid hi2
      clear htk hfs hzg ea hi1 hi2
      go_wp2_with fail
      clear s0 s1 s2
      have hG2 := HG.out.push #[.int .i64 t.1, .int .i64 t.2.1, .string t.2.2] 65 (by decide) HG.out.below.size
      generalize wr.alloc (.cells #[.int .i64 t.1, .int .i64 t.2.1, .string t.2.2] 65) = w2 at hG2 ⊢
      generalize wr.heap.size = xb at hG2 ⊢
      have HG2 := Lib.hid hG2
      obtain ⟨v2, hv2⟩ := hG2.ex
      have HV2 := Lib.hid hv2
      clear hG2 hv2 HG
      refine (pw1_any _ wb v2 cur t.1 w2 HI1.out (by omega) HV2.out).mono ?_
      rintro e w3 ⟨rfl, hk3⟩
      have hG3 : WG 75 w0.heap.size w0 w3 wb _ (lt1 cur t) := HG2.out.step HV2.out hk3
      have HG3 := Lib.hid hG3
      obtain ⟨v3, hv3⟩ := hG3.ex
      have HV3 := Lib.hid hv3
      have x1 := cell_of_blk ((hG3.par _ (List.mem_cons_self)).1) 1 (v := .int .i64 t.2.1) rfl
      clear hG3 hv3 hk3 HG2 HV2
      go_wp2_with fail
      refine (pw2_any _ wb v3 (lt1 cur t) t.2.1 w3 HI2.out (by omega) HV3.out).mono ?_
      rintro e w4 ⟨rfl, hk4⟩
      have hG4 : WG 75 w0.heap.size w0 w4 wb _ (lt2 cur t) := HG3.out.step HV3.out hk4
      have HG4 := Lib.hid hG4
      obtain ⟨v4, hv4⟩ := hG4.ex
      have HV4 := Lib.hid hv4
      have x2 := cell_of_blk ((hG4.par _ (List.mem_cons_self)).1) 2 (v := .string t.2.2) rfl
      clear hG4 hv4 hk4 HG3 HV3 x1
      go_wp2_with fail
      refine (phash_any _ wb v4 (lt2 cur t) t.2.2 w4 (by omega) HV4.out).mono ?_
      rintro e w5 ⟨rfl, hk5⟩
      have hG5 : WG 75 w0.heap.size w0 w5 wb _ (lt3 cur t) := HG4.out.step HV4.out hk5
      have HG5 := Lib.hid hG5.pop
      clear hk5 hG5 HG4 HV4 x2
      go_wp2_with fail
      refine ⟨⟨k + 1, hlt, rfl, ?_⟩, ?_⟩
      · rw [HTk.out]
        exact HG5.out
      · show L.length - ((k : Int) + 1).toNat < L.length - (k : Int).toNat
        omega
    case neg =>
      obtain rfl : k = L.length := by omega
      have hfin : L.take L.length = L := List.take_length
      rw [hfin] at HG
      go_wp2_with fail
      go_end0
      exact ⟨rfl, HE.out ▸ HG.out⟩

/-! ### targets taken -/
theorem step_appL {α : Type} {e : TypeId} {size : Nat} {mk : α → List Value} {P : Program} {w : World} {ops : Array Oper} {o : Oper} {a : Act} {K : Act → World → Prop} {Q : Exit → Act → World → Prop} {E : Prop} (hgd : o.guard = none) (sl x : Operand) (st : TypeId)
    (ho : o.op = .call { callee := .builtin .append, args := #[sl, x], argTypes := #[st, st] }) (i : TypeInfo) (z : Value) (bytes : Nat) (ht : P.underlying st = some (.slice e)) (hi : P.info? e = some i) (hz : i.zero = some z)
    (hsize : i.size = size) (hby : i.bytes = bytes) (hzs : z.cells.size = size) (hsz : 0 < size)
    (base : Nat) (v : Value) (l : List α) (hs : a.eval sl = v) (hown : OwnL e size mk w base v l) (y : α) (hmk : (mk y).length = size) (ad : Addr) (c : Nat) (hx : a.eval x = .slice (some ad) 1 c)
    (hc : ∀ j u, (mk y)[j]? = some u → w.cell? (ad.add j) = some u) (h1 : ∀ u ∈ mk y, u.oneCell' = true) (hlen : l.length + 1 ≤ 1000000000) (hb2 : bytes ≤ 100) (hbase : base ≤ w.heap.size)
    (h : ∀ v' w', OwnL e size mk w' base v' (l ++ [y]) → w.grownBy w' v.ownBlock → (v'.ownBlock = v.ownBlock ∨ v'.ownBlock = some w.heap.size) → K (a.put o.dst v') w') :
    if Region.wanted o (yielded ops a.tmps) = true then Oper.wp P o a w K Q else E := by
  have hw : Region.wanted o (yielded ops a.tmps) = true := by simp [Region.wanted, hgd]
  rw [if_pos hw]
  obtain ⟨v', w', hr, h2, h3, _, h4⟩ := run_append_own_at (P := P) w base st o.type e i z size bytes ht hi hz hsize hby hzs hsz v l.length (l.flatMap mk) hown ad 1 c (mk y) (by rw [hmk, Nat.one_mul]) hc h1 (by unfold maxLen; omega)
    (by have := Nat.mul_le_mul (show l.length + 1 ≤ 1000000000 from hlen) hb2; omega) hbase
  unfold Oper.wp execOp
  simp only [ho, resolve, invoke, builtin, Sem.run_bind, Sem.run_pure, Result.andThen_ok, List.map_toArray, List.map_cons, List.map_nil, hs, hx, hr]
  refine h v' w' ?_ h3 h4
  unfold OwnL
  rw [List.length_append, List.flatMap_append]
  simpa using h2
def mkT (t : TgtT) : List Value := [Value.int .i64 t.1, Value.int .i64 t.2.1, Value.string t.2.2]
def OwnT (w : World) (base : Nat) (v : Value) (L : List TgtT) : Prop := OwnL 65 3 mkT w base v L
theorem infoTg : (Tryz.prog.info? 65).map (fun i => (i.zero, i.size, i.bytes)) = some (some (.agg #[.int .i64 0, .int .i64 0, .string ⟨#[]⟩]), 3, 32) := by kernel_rfl
theorem flat3_get (L : List TgtT) : ∀ (i : Nat) (f : TgtT), L[i]? = some f →
    (L.flatMap mkT)[i * 3]? = some (.int .i64 f.1) ∧ (L.flatMap mkT)[i * 3 + 1]? = some (.int .i64 f.2.1) ∧ (L.flatMap mkT)[i * 3 + 2]? = some (.string f.2.2) := by
  induction L with
  | nil => intro i f h; simp at h
  | cons x r ih =>
    intro i f h
    cases i with
    | zero => simp at h; subst h; exact ⟨rfl, rfl, rfl⟩
    | succ i =>
      have h2 := ih i f (by simpa using h)
      have e : (i + 1) * 3 = i * 3 + 1 + 1 + 1 := by omega
      rw [e]
      exact h2
theorem OwnT.tgm {w : World} {base : Nat} {v : Value} {L : List TgtT} (h : OwnT w base v L) : ∃ ad cap, v = .slice ad L.length cap ∧ TgM w ad L := by
  obtain ⟨ao, cap, hv, -, -, h2⟩ := OwnL.form h
  refine ⟨ao, cap, hv, fun i f hf => ?_⟩
  have hi : i < L.length := (List.getElem?_eq_some_iff.1 hf).1
  obtain ⟨g, hg, -, -, hc⟩ := h2 (by omega)
  obtain ⟨e1, e2, e3⟩ := flat3_get L i f hf
  refine ⟨g, 0, hg, ?_, ?_, ?_⟩
  · rw [Nat.zero_add, hc _ (by omega)]; exact e1
  · rw [Nat.zero_add, hc _ (by omega)]; exact e2
  · rw [Nat.zero_add, hc _ (by omega)]; exact e3
theorem one_tgt (w : World) (x : TgtT) (t : TypeId) : ∀ j u, (mkT x)[j]? = some u → (w.alloc (.cells #[.int .i64 x.1, .int .i64 x.2.1, .string x.2.2] t)).cell? ((⟨w.heap.size, 0, none⟩ : Addr).add j) = some u := by
  intro j u hu
  match j with
  | 0 => obtain rfl : Value.int .i64 x.1 = u := by simpa [mkT] using hu
         exact cell_of_blk (blk_new w _) 0 rfl
  | 1 => obtain rfl : Value.int .i64 x.2.1 = u := by simpa [mkT] using hu
         exact cell_of_blk (blk_new w _) 1 rfl
  | 2 => obtain rfl : Value.string x.2.2 = u := by simpa [mkT] using hu
         exact cell_of_blk (blk_new w _) 2 rfl
  | j + 3 => simp [mkT] at hu
def tt1 (r : RS) : Int × RS := rNum r 1
def tt2 (r : RS) : Int × RS := rNum (tt1 r).2 2
def tt3 (r : RS) : ByteArray × RS := rRaw (tt2 r).2 32
def takeTN (r : RS) : Nat → List TgtT × RS
  | 0 => ([], r)
  | k + 1 => ((takeTN r k).1 ++ [((tt1 (takeTN r k).2).1, (tt2 (takeTN r k).2).1, (tt3 (takeTN r k).2).1)], (tt3 (takeTN r k).2).2)
def takeTg (r : RS) : List TgtT × RS := takeTN (rNum r 1).2 (rNum r 1).1.toNat
theorem tt_size (r : RS) : (tt1 r).2.1.size ≤ r.1.size ∧ (tt2 r).2.1.size ≤ r.1.size ∧ (tt3 r).2.1.size ≤ r.1.size := by
  have h1 : (tt1 r).2.1.size ≤ r.1.size := (rRaw_size r 1).2
  have h2 : (tt2 r).2.1.size ≤ (tt1 r).2.1.size := (rRaw_size _ 2).2
  have h3 : (tt3 r).2.1.size ≤ (tt2 r).2.1.size := (rRaw_size _ 32).2
  omega
theorem takeTN_size (r : RS) : ∀ k, (takeTN r k).2.1.size ≤ r.1.size
  | 0 => Nat.le_refl _
  | k + 1 => Nat.le_trans (tt_size _).2.2 (takeTN_size r k)
theorem takeTN_len (r : RS) : ∀ k, (takeTN r k).1.length = k
  | 0 => rfl
  | k + 1 => by show ((takeTN r k).1 ++ [_]).length = k + 1; rw [List.length_append, takeTN_len r k]; rfl
structure TtS (W : World) (db rb : Nat) (d0 : DV) (L : List TgtT) (r : RS) (wr : World) : Prop where
  ex : ∃ ad cap, OwnT wr W.heap.size (.slice ad L.length cap) L ∧ DocAt wr db { d0 with lad := ad, ln := L.length, lc := cap }
  rd : Rdr 136 wr rb r
  kp : Kp (fun k => k = db ∨ k = rb) W wr
theorem TtS.step {W : World} {db rb : Nat} {d0 : DV} {L : List TgtT} {r r' : RS} {wr w' : World} (H : TtS W db rb d0 L r wr) (h1 : rb < db) (h2 : db < W.heap.size) (k : Kp (fun k => k = rb) wr w') (hr : Rdr 136 w' rb r') : TtS W db rb d0 L r' w' := by
  obtain ⟨ad, cap, ho, hd⟩ := H.ex
  exact ⟨⟨ad, cap, OwnL.kp ho k (fun g hg => by have := (OwnL.lt ho g hg).1; omega), blk_kp hd k (by omega)⟩, hr, H.kp.trans' k (fun i hi => .inl (.inr hi))⟩
def TtRel (W : World) (db rb : Nat) (d0 : DV) (r : RS) (n : Nat) (i : Value) (wr : World) : Prop := ∃ k : Nat, k ≤ n ∧ i = .int .i64 k ∧ TtS W db rb d0 (takeTN r k).1 (takeTN r k).2 wr

set_option maxRecDepth 100000 in
set_option maxHeartbeats 4000000 in
theorem taketg_any (d0 : DV) (r3 : RS) (w : World) (hs : r3.1.size ≤ 1000000000) (h0 : d0.lad = none ∧ d0.ln = 0 ∧ d0.lc = 0) :
    TakeC 98 d0 r3 (takeTg r3).2 (fun d W => (∃ ad cap, d = { d0 with lad := ad, ln := (takeTg r3).1.length, lc := cap } ∧ OwnT W (w.heap.size + 2) (.slice ad (takeTg r3).1.length cap) (takeTg r3).1)) w := by
  intro W db rb hB hd hr h1 h2
  have hdb : db < W.heap.size := (Array.getElem?_eq_some_iff.1 hd).1
  obtain ⟨n, hn, hn255⟩ := rNum1 r3
  have hz1 : (rNum r3 1).2.1.size ≤ r3.1.size := (rRaw_size r3 1).2
  have htp : takeTg r3 = takeTN (rNum r3 1).2 n := by unfold takeTg; rw [hn]; rfl
  rw [htp]
  have HC := r1_any rb r3 W (by omega) hr
  rw [hn] at HC
  generalize (rNum r3 1).2 = r1 at HC hz1 ⊢
  have HC1 := Lib.hid HC
  have h00 : { d0 with lad := none, ln := 0, lc := 0 } = d0 := by
    obtain ⟨e1, e2, e3⟩ := h0
    cases d0
    simp at e1 e2 e3
    subst e1
    subst e2
    subst e3
    rfl
  have hI0 : ∀ w1, RdP 136 rb r1 W w1 → TtS W db rb d0 [] r1 w1 := fun w1 k => ⟨⟨none, 0, ownL_nil _ _, by rw [show ([] : List TgtT).length = 0 from rfl, h00]; exact blk_kp hd k.2 (by omega)⟩, k.1, k.2.mono (fun i hi => .inr hi)⟩
  have HI0 := Lib.hid hI0
  clear HC hr hd htp hn h0 h00 hI0 hB
  go_enter Tryz.func98, Tryz.ntmps98
  go_wp2_with fail
  refine HC1.out.mono ?_
  rintro e w1 ⟨rfl, k1⟩
  have HI1 := Lib.hid (HI0.out w1 k1)
  clear k1 HC1 HI0
  go_wp2_with fail
  go_loopw [7] (fun i wr => TtRel W db rb d0 r1 n i wr) (fun i _ => n - (intOf i).toNat)
  case atStart => exact ⟨0, Nat.zero_le _, rfl, HI1.out⟩
  case round =>
    clear HI1
    obtain ⟨k, hk, rfl, hI⟩ := hrel
    have HI := Lib.hid hI
    clear hI
    have hsz := takeTN_size r1 k
    have hln := Lib.hid (takeTN_len r1 k)
    by_cases hlt : k < n
    case pos =>
      have ht1 : (takeTN r1 (k + 1)).1 = (takeTN r1 k).1 ++ [((tt1 (takeTN r1 k).2).1, (tt2 (takeTN r1 k).2).1, (tt3 (takeTN r1 k).2).1)] := rfl
      have ht2 : (takeTN r1 (k + 1)).2 = (tt3 (takeTN r1 k).2).2 := rfl
      have HT1 := Lib.hid ht1
      have HT2 := Lib.hid ht2
      have hk0 : (k : Int) < (n : Int) := by omega
      clear ht1 ht2
      generalize (takeTN r1 k).2 = ra at HI HT1 HT2 hsz
      generalize (takeTN r1 k).1 = L at HI HT1 hln
      obtain ⟨y1, y2, y3⟩ := tt_size ra
      have e1 : rNum ra 1 = tt1 ra := rfl
      have e2 : rNum (tt1 ra).2 2 = tt2 ra := rfl
      have e3 : rRaw (tt2 ra).2 32 = tt3 ra := rfl
      generalize tt3 ra = C at *
      generalize tt2 ra = B at *
      generalize tt1 ra = A at *
      have E2 := Lib.hid e2
      have E3 := Lib.hid e3
      have c1 := r1_any rb ra wr (by omega) HI.out.rd
      rw [e1] at c1
      have HC1 := Lib.hid c1
      clear e1 e2 e3 c1
      go_wp2_with fail
      refine HC1.out.mono ?_
      rintro e w2 ⟨rfl, k2⟩
      have hWr : W.heap.size ≤ wr.heap.size := HI.out.kp.size
      obtain ⟨w3, hw3⟩ : ∃ w3, w3 = w2.alloc (.cells #[.int .i64 A.1, .int .i64 0, .string ⟨#[]⟩] 65) := ⟨_, rfl⟩
      obtain ⟨xb, hxb⟩ : ∃ xb, xb = w2.heap.size := ⟨_, rfl⟩
      have hxl : wr.heap.size ≤ xb := by rw [hxb]; exact k2.2.size
      have hx3 : w3.heap[xb]? = some (.cells #[.int .i64 A.1, .int .i64 0, .string ⟨#[]⟩] 65 (0, 0)) := by rw [hw3, hxb]; exact blk_new _ _
      have hr3 : Rdr 136 w3 rb A.2 := by rw [hw3]; exact blk_alloc k2.1 _
      have hk3 : Kp (fun k => k = rb) wr w3 := by rw [hw3]; exact k2.2.alloc _
      have c4 := r2_any rb A.2 w3 (by omega) hr3
      rw [E2.out] at c4
      have HC4 := Lib.hid c4
      have HX3 := Lib.hid hx3
      have HK3 := Lib.hid hk3
      clear k2 c4 hr3 hx3 hk3 HC1 E2
      go_wp2_with fail
      rw [← hw3]
      have hxb' := hxb.symm
      rw [hxb']
      clear hw3 hxb hxb'
      refine HC4.out.mono ?_
      rintro e w4 ⟨rfl, k4⟩
      have hx4 := blk_kp HX3.out k4.2 (by omega)
      have x1 := cell_of_blk hx4 1 (v := .int .i64 0) rfl
      have xf1 := free_of_blk hx4 1
      have hx5 : (w4.setCell ⟨xb, 1, none⟩ (.int .i64 B.1)).heap[xb]? = some (.cells #[.int .i64 A.1, .int .i64 B.1, .string ⟨#[]⟩] 65 (0, 0)) := blk_set hx4 _
      have hk5 : Kp (fun k => k = rb) wr (w4.setCell ⟨xb, 1, none⟩ (.int .i64 B.1)) := (HK3.out.trans k4.2).setCell (p := ⟨xb, 1, none⟩) (.inr hxl) _
      have hr5 : Rdr 136 (w4.setCell ⟨xb, 1, none⟩ (.int .i64 B.1)) rb B.2 := blk_set_other k4.1 (by omega) _
      have c5 := rhash_any rb B.2 _ (by omega) hr5
      rw [E3.out] at c5
      have HC5 := Lib.hid c5
      have HX5 := Lib.hid hx5
      have HK5 := Lib.hid hk5
      clear k4 hx4 hx5 hk5 hr5 c5 HC4 HX3 HK3 E3
      go_wp2_with fail
      clear x1 xf1
      refine HC5.out.mono ?_
      rintro e w6 ⟨rfl, k6⟩
      have hx6 := blk_kp HX5.out k6.2 (by omega)
      have x2 := cell_of_blk hx6 2 (v := .string ⟨#[]⟩) rfl
      have xf2 := free_of_blk hx6 2
      have hx7 : (w6.setCell ⟨xb, 2, none⟩ (.string C.1)).heap[xb]? = some (.cells #[.int .i64 A.1, .int .i64 B.1, .string C.1] 65 (0, 0)) := blk_set hx6 _
      have hk7 : Kp (fun k => k = rb) wr (w6.setCell ⟨xb, 2, none⟩ (.string C.1)) := (HK5.out.trans k6.2).setCell (p := ⟨xb, 2, none⟩) (.inr hxl) _
      have hr7 : Rdr 136 (w6.setCell ⟨xb, 2, none⟩ (.string C.1)) rb C.2 := blk_set_other k6.1 (by omega) _
      have hI7 := HI.out.step h2 hdb hk7 hr7
      have HX7 := Lib.hid hx7
      have HI7 := Lib.hid hI7
      clear k6 hx6 hx7 hk7 hr7 hI7 HC5 HX5 HK5 HI
      go_wp2_with fail
      clear x2 xf2
      generalize w6.setCell ⟨xb, 2, none⟩ (.string C.1) = w7 at HX7 HI7 ⊢
      obtain ⟨ad, cap, ho, hdd⟩ := HI7.out.ex
      have c15 := cell_of_blk hdd 15 (v := .slice ad L.length cap) rfl
      have f15 := free_of_blk hdd 15
      have x0 := cell_of_blk HX7.out 0 (v := .int .i64 A.1) rfl
      have x1 := cell_of_blk HX7.out 1 (v := .int .i64 B.1) rfl
      have x2 := cell_of_blk HX7.out 2 (v := .string C.1) rfl
      have hne : (Value.slice ad L.length cap).ownBlock ≠ some db := fun h => by have := (OwnL.lt ho db h).1; omega
      obtain ⟨i0, hi, hz0, hz1', hz2'⟩ := info_parts infoTg
      have HI2 := Lib.hid hz2'
      have HO := Lib.hid ho
      have HDD := Lib.hid hdd
      clear hz2' ho hdd
      have c15a := fun o => cell_alloc c15 o
      have f15a := fun o => free_alloc c15 f15 o
      have hbs : W.heap.size ≤ w7.heap.size + 1 := Nat.le_succ_of_le HI7.out.kp.size
      go_region_law ((refine step_appL (by rfl) _ _ 26 (by rfl) i0 (.agg #[.int .i64 0, .int .i64 0, .string ⟨#[]⟩]) 32 Tryz.underlying26 hi hz0 hz1' HI2.out rfl (by decide) W.heap.size (.slice ad L.length cap) L (by rfl) (HO.out.alloc _) (A.1, B.1, C.1) rfl ⟨w7.heap.size, 0, none⟩ 1 (by rfl) (one_tgt w7 (A.1, B.1, C.1) _) (by intro u hu; simp [mkT] at hu; rcases hu with rfl | rfl | rfl <;> rfl) (by have := hln.out; omega) (by decide) (by simp; exact hbs) ?_; intro v' w8 ho8 hg8 hv8; obtain ⟨ao8, cap8, rfl, -, -, -⟩ := OwnL.form ho8; have e0 := keep_cell c15 hg8 hne; have e1 := keep_free c15 f15 hg8 hne))
      all_goals
        have hown := OwnL.lt HO.out
        have k8 : Kp (fun k => (Value.slice ad L.length cap).ownBlock = some k) w7 w8 := ((Kp.refl (fun k => (Value.slice ad L.length cap).ownBlock = some k) w7).drew.alloc _).grown hg8 (fun k h => .inl h)
        have hd8 : DocAt w8 db { d0 with lad := ad, ln := L.length, lc := cap } := blk_kp HDD.out k8 (fun h => hne h)
        have k9 : Kp (fun k => k = db) w8 (w8.setCell ⟨db, 15, none⟩ (.slice ao8 (L ++ [(A.1, B.1, C.1)]).length cap8)) := (Kp.refl (fun k => k = db) w8).setCell (p := ⟨db, 15, none⟩) (.inl rfl) _
        have hd9 : DocAt (w8.setCell ⟨db, 15, none⟩ (.slice ao8 (L ++ [(A.1, B.1, C.1)]).length cap8)) db { d0 with lad := ao8, ln := (L ++ [(A.1, B.1, C.1)]).length, lc := cap8 } := blk_set hd8 _
        have ho9 := OwnL.kp ho8 k9 (fun g hg => by have := (OwnL.lt ho8 g hg).1; omega)
        have hr9 := blk_kp (blk_kp HI7.out.rd k8 (fun h => by have := (hown _ h).1; omega)) k9 (by omega)
        have hk9 : Kp (fun k => k = db ∨ k = rb) W (w8.setCell ⟨db, 15, none⟩ (.slice ao8 (L ++ [(A.1, B.1, C.1)]).length cap8)) := (HI7.out.kp.trans' k8 (fun i hi => .inr (hown i hi).1)).trans' k9 (fun i hi => .inl (.inl hi))
        have HF : Hid (TtS W db rb d0 (L ++ [(A.1, B.1, C.1)]) C.2 (w8.setCell ⟨db, 15, none⟩ (.slice ao8 (L ++ [(A.1, B.1, C.1)]).length cap8))) := Lib.hid ⟨⟨ao8, cap8, ho9, hd9⟩, hr9, hk9⟩
        have hll : (L ++ [(A.1, B.1, C.1)]).length = L.length + 1 := by rw [List.length_append]; rfl
        clear ho8 hg8 hv8 e0 e1 c15a f15a hown k8 hd8 k9 hd9 ho9 hr9 hk9 hbs
        go_wp2_with fail
        refine ⟨⟨k + 1, hlt, rfl, ?_⟩, ?_⟩
        · rw [HT1.out, HT2.out, ← hll]
          exact HF.out
        · show n - ((k : Int) + 1).toNat < n - (k : Int).toNat
          omega
    case neg =>
      obtain rfl : k = n := by omega
      go_wp2_with fail
      go_end0
      obtain ⟨ad, cap, ho, hdd⟩ := HI.out.ex
      refine ⟨rfl, _, ⟨ad, cap, rfl, OwnL.base ho (fun g hg => by have := (OwnL.lt ho g hg).1; omega)⟩, hdd, HI.out.rd, HI.out.kp⟩
end Go.Proofs.YtmejjphliaiamaaGreatDoor
