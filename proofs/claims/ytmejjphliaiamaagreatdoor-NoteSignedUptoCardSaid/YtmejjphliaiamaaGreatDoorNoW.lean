import Derived.Test.YtmejjphliaiamaaGreatDoorNoU
set_option linter.unusedVariables false
set_option linter.unusedSimpArgs false
namespace Go.Proofs.YtmejjphliaiamaaGreatDoor
open Go Go.RowKit Go.Lib Go.Sort

/-! ### the document's Read -/
theorem joinB_app (a b : List ByteArray) : joinB (a ++ b) = joinB a ++ joinB b := by
  apply ba_ext
  induction a with
  | nil => show (joinB b).data.toList = ((⟨#[]⟩ : ByteArray) ++ joinB b).data.toList; simp
  | cons x r ih =>
    show (x ++ nlB ++ joinB (r ++ b)).data.toList = (x ++ nlB ++ joinB r ++ joinB b).data.toList
    simp only [ByteArray.data_append, Array.toList_append, List.append_assoc] at ih ⊢
    rw [ih]
theorem joinB_take_le (l : List ByteArray) (k : Nat) : (joinB (l.take k)).size ≤ (joinB l).size := by
  conv => rhs; rw [← List.take_append_drop k l, joinB_app, ByteArray.size_append]
  omega
theorem leadK_le : ∀ l : List ByteArray, leadK l ≤ l.length
  | [] => Nat.le_refl _
  | x :: r => by
    unfold leadK
    split
    · exact Nat.zero_le _
    · have := leadK_le r; rw [List.length_cons]; omega
theorem leadK_lt : ∀ (l : List ByteArray) (k : Nat) (h : k < l.length), k < leadK l → (l[k]).size ≠ 0
  | x :: r, k, h, hk => by
    unfold leadK at hk
    split at hk
    · omega
    · rename_i hx
      cases k with
      | zero => exact hx
      | succ k => exact leadK_lt r k (by simpa using h) (by omega)
theorem leadK_at : ∀ (l : List ByteArray) (h : leadK l < l.length), (l[leadK l]).size = 0
  | x :: r, h => by
    by_cases hx : x.size = 0
    · have e : leadK (x :: r) = 0 := by unfold leadK; rw [if_pos hx]
      simp only [e]
      exact hx
    · have e : leadK (x :: r) = leadK r + 1 := by rw [leadK, if_neg hx]
      simp only [e, List.getElem_cons_succ]
      exact leadK_at r (by rw [e, List.length_cons] at h; omega)
theorem readL_bad {s : ByteArray} {l : List ByteArray} {x : ByteArray} (hx : x ∈ restR l) (hb : sigAll x = false) : readL s l = (nt0, 3) := by
  unfold readL
  rw [if_neg]
  intro h
  rw [List.all_eq_true.1 h x hx] at hb
  cases hb

theorem OwnS.cell' {w : World} {base : Nat} {v : Value} {l : List ByteArray} (h : OwnS w base v l) : ∃ ao cap g, v = .slice ao l.length cap ∧ (0 < l.length → ao = some ⟨g, 0, none⟩) ∧ ∀ i (hi : i < l.length), w.cell? ⟨g, i, none⟩ = some (.string l[i]) := by
  obtain ⟨ao, cap, hv, h2⟩ := h.cell
  cases l with
  | nil => exact ⟨ao, cap, 0, hv, fun h => absurd h (by decide), fun i hi => absurd hi (by simp)⟩
  | cons x r =>
    obtain ⟨g, hg, -⟩ := h2 0 (by simp)
    refine ⟨ao, cap, g, hv, fun _ => hg, fun i hi => ?_⟩
    obtain ⟨g2, hg2, hc⟩ := h2 i hi
    rw [hg] at hg2
    cases hg2
    exact hc
def R1Rel (w2 : World) (l : List ByteArray) (i : Value) (wr : World) : Prop := ∃ k : Nat, k ≤ leadK l ∧ i = .int .i64 k ∧ wr.heap[w2.heap.size]? = some (.cells #[.string (joinB (l.take k)), .slice none 0 0] 69 (0, 0)) ∧ Below w2.heap.size w2 wr
def R2Rel (w2 : World) (l : List ByteArray) (i : Value) (wr : World) : Prop := ∃ (j : Nat) (v : Value), j ≤ (restR l).length ∧ i = .int .i64 ((leadK l + 1 + j : Nat) : Int) ∧ ((restR l).take j).all sigAll = true ∧
  wr.heap[w2.heap.size]? = some (.cells #[.string (textR l), v] 69 (0, 0)) ∧ OwnG wr (w2.heap.size + 1) v (((restR l).take j).map sigR) ∧ Below w2.heap.size w2 wr
theorem restR_len (l : List ByteArray) : (restR l).length = min 19 (l.length - (leadK l + 1)) := by unfold restR; rw [List.length_take, List.length_drop]
theorem restR_get (l : List ByteArray) (j : Nat) (h : j < (restR l).length) : ∃ h2 : leadK l + 1 + j < l.length, (restR l)[j] = l[leadK l + 1 + j] := by
  have hl := restR_len l
  exact ⟨by omega, by simp [restR]⟩
theorem rbad_ret {fn : Func} {a : Act} {w W2 : World} {res : NtV × Int} (hr : W2.heap[w.heap.size]? = some (.cells #[.string ⟨#[]⟩, .slice none 0 0] 69 (0, 0))) (hb : Below w.heap.size w W2) (hres : res = (nt0, 3))
    (hf : fn.results = #[.cell 2 69, .tmp 3]) (ha : a.tmps[2]?.getD undef = .pointer (some ⟨w.heap.size, 0, none⟩)) (hc : a.tmps[3]?.getD undef = .int .i64 3) (hd : a.defers = []) :
    bodyPost Tryz.prog fn (fun e w' => ∃ v, e = Ending.returned (.tuple #[.agg #[.string res.1.1, v], .int .i64 res.2]) ∧ OwnG w' w.heap.size v res.1.2 ∧ Below w.heap.size w w') Exit.ret a
      ((W2.setCell ⟨w.heap.size, 0, none⟩ (.string ⟨#[]⟩)).setCell ⟨w.heap.size, 1, none⟩ (.slice none 0 0)) := by
  have hr5 : ((W2.setCell ⟨w.heap.size, 0, none⟩ (.string ⟨#[]⟩)).setCell ⟨w.heap.size, 1, none⟩ (.slice none 0 0)).heap[w.heap.size]? = some (.cells #[.string ⟨#[]⟩, .slice none 0 0] 69 (0, 0)) := blk_set (blk_set hr _) _
  have c0 := cell_of_blk hr5 0 (v := .string ⟨#[]⟩) rfl
  have c1 := cell_of_blk hr5 1 (v := .slice none 0 0) rfl
  subst hres
  refine bodyPost_ret (v := .tuple #[.agg #[.string ⟨#[]⟩, .slice none 0 0], .int .i64 3]) (by simp only [results, hf]; simp [go_sem, c0, c1, ha, hc]) hd ⟨_, rfl, ownL_nil _ _, ?_⟩
  exact (hb.setCell (p := ⟨w.heap.size, 0, none⟩) (Nat.le_refl _) _).setCell (p := ⟨w.heap.size, 1, none⟩) (Nat.le_refl _) _

theorem rok_ret {fn : Func} {a : Act} {w W : World} {res : NtV × Int} {tx : ByteArray} {v : Value} {L : List SigT} (hr : W.heap[w.heap.size]? = some (.cells #[.string tx, v] 69 (0, 0))) (hO : OwnG W w.heap.size v L) (hb : Below w.heap.size w W) (hres : res = ((tx, L), 0))
    (hf : fn.results = #[.cell 2 69, .tmp 3]) (ha : a.tmps[2]?.getD undef = .pointer (some ⟨w.heap.size, 0, none⟩)) (hc : a.tmps[3]?.getD undef = .int .i64 0) (hd : a.defers = []) :
    bodyPost Tryz.prog fn (fun e w' => ∃ v, e = Ending.returned (.tuple #[.agg #[.string res.1.1, v], .int .i64 res.2]) ∧ OwnG w' w.heap.size v res.1.2 ∧ Below w.heap.size w w') Exit.ret a W := by
  have c0 := cell_of_blk hr 0 (v := .string tx) rfl
  have c1 := cell_of_blk hr 1 (v := v) rfl
  subst hres
  exact bodyPost_ret (v := .tuple #[.agg #[.string tx, v], .int .i64 0]) (by simp only [results, hf]; simp [go_sem, c0, c1, ha, hc]) hd ⟨_, rfl, hO, hb⟩

set_option maxRecDepth 100000 in
set_option maxHeartbeats 4000000 in
theorem rread_note (s : ByteArray) (w : World) (hs : s.size ≤ 50000000) :
    Calls Tryz.prog 88 #[.string s] w (ReadPost s w) := by
  have HLn := Lib.hid (fun W => lines_any s W (by omega))
  have HRd := Lib.hid (readR_eq s).symm
  unfold ReadPost
  generalize readP s = res at HRd
  go_enter Tryz.func88, Tryz.ntmps88
  go_wp2_with fail
  refine (HLn.out _).mono ?_
  rintro e w2 ⟨v, done, fl, rfl, hO, hd, hfl, hb⟩
  have hr2 : w2.heap[w.heap.size]? = some (.cells #[.string ⟨#[]⟩, .slice none 0 0] 69 (0, 0)) := blk_later (blk_new _ _) hb
  have hK : Below w.heap.size w w2 := ((Below.refl w.heap.size w).alloc (Nat.le_refl _) _).trans (hb.mono (by rw [size_alloc]; omega))
  have HR2 := Lib.hid hr2
  have HK := Lib.hid hK
  have hlin : linesR s = done := by
    unfold linesR
    obtain ⟨z, hz⟩ := lines_pcs hd
    rw [hz, List.dropLast_concat]
  have r0 := cell_of_blk hr2 0 (v := .string ⟨#[]⟩) rfl
  have r1 := cell_of_blk hr2 1 (v := .slice none 0 0) rfl
  have rf0 := free_of_blk hr2 0
  have rf1 := free_of_blk hr2 1
  cases fl with
  | false =>
    have hres : res = (nt0, 3) := by
      rw [HRd.out]; unfold readR; rw [if_neg (fun h => by have := hfl.2 h; cases this)]
    have HE := Lib.hid hres
    clear hb hK hr2 hfl hres hlin
    go_wp2_with fail
    exact rbad_ret HR2.out HK.out HE.out rfl rfl rfl rfl
  | true =>
    have hlast : (cutsL s.data.toList).getLast? = some [] := hfl.1 rfl
    have hres : res = readL s done := by rw [HRd.out]; unfold readR; rw [if_pos hlast, hlin]
    have hjs : joinB done = s := by
      apply ba_ext
      rw [joinB_data, hd, joinNl_cuts _ hlast]
    have HJ := Lib.hid hjs
    have HE := Lib.hid hres
    obtain ⟨ao, cap, g, rfl, hao, hcell⟩ := OwnS.cell' hO
    have HC := Lib.hid hcell
    have HA := Lib.hid hao
    have hdn : done.length ≤ 50000001 := by
      have := congrArg List.length hd
      rw [List.length_map, List.length_dropLast] at this
      have h3 := cutsL_len s.data.toList
      have e : s.data.toList.length = s.size := Array.length_toList
      omega
    have hlk := leadK_le done
    clear hb hK hr2 hfl hres hlin hlast hjs hd hO hcell hao r0 r1 rf0 rf1
    go_wp2_with fail
    go_loopw [7] (fun i wr => R1Rel w2 done i wr) (fun i _ => done.length - (intOf i).toNat)
    case atStart => exact ⟨0, Nat.zero_le _, rfl, blk_new _ _, (Below.refl _ _).alloc (Nat.le_refl _) _⟩
    case round =>
      obtain ⟨k, hk, rfl, hn, hB⟩ := hrel
      have HN := Lib.hid hn
      have HB := Lib.hid hB
      have n0 := cell_of_blk hn 0 (v := .string (joinB (done.take k))) rfl
      have nf0 := free_of_blk hn 0
      have hk0 : (0 : Int) ≤ (k : Int) := Int.natCast_nonneg _
      clear hn hB
      rcases Nat.lt_or_ge k (leadK done) with hkl | hkl
      · have hlt : k < done.length := by omega
        have hk1 : (k : Int) < (done.length : Int) := by omega
        obtain rfl := HA.out (by omega)
        have hc := HC.out k hlt
        have hcr := (HB.out.cell (p := ⟨g, k, none⟩) (cell_lt hc)).trans hc
        have hx := leadK_lt done k hlt hkl
        have e2 : done[k].toList.isEmpty = false := by cases hl : done[k].toList with | nil => exact absurd ((size_zero_iff _).2 hl) hx | cons a b => rfl
        have htk : joinB (done.take (k + 1)) = joinB (done.take k) ++ done[k] ++ ⟨#[10]⟩ := by rw [List.take_succ_eq_append_getElem hlt, joinB_snoc]; rfl
        have z1 : (joinB (done.take (k + 1))).size ≤ s.size := by have := joinB_take_le done (k + 1); rw [HJ.out] at this; exact this
        have z2 : (joinB (done.take k)).size + done[k].size + 1 ≤ s.size := by rw [htk, ByteArray.size_append, ByteArray.size_append] at z1; exact z1
        have HT := Lib.hid htk
        generalize done[k] = x at hcr e2 z2 HT
        clear hx hc htk z1
        generalize joinB (done.take k) = cur at n0 z2 HT HN
        have p1 : ¬ 9223372036854775807 < cur.size + x.size := by omega
        have p2 : ¬ 9223372036854775807 < cur.size + x.size + 1 := by omega
        go_wp2_with fail
        have n0r := cell_regrown n0
        have hcrr := cell_regrown hcr
        refine wp_region_quiet_tail_below 9 (by kernel_rfl) (by kernel_rfl) ?_
        simp only [List.take_succ_cons, List.take_zero, List.drop_succ_cons, List.drop_zero]
        repeat quiet_step (fail)
        refine wpQuiet_nil ?_
        intro w5 hw5
        obtain ⟨⟨dq, osq⟩, hw''⟩ := hw5
        have hb5 : Below wr.heap.size wr w5 := by rw [hw'']; exact below_regrown wr dq osq
        have hn5 := blk_later HN.out hb5
        have HN5 := Lib.hid hn5
        have HB5 := Lib.hid (HB.out.trans (hb5.mono HB.out.size))
        have m0 := cell_of_blk hn5 0 (v := .string cur) rfl
        have mf0 := free_of_blk hn5 0
        clear hw'' hb5 hn5 n0 nf0 n0r hcr hcrr
        go_wp2_with fail
        refine ⟨⟨k + 1, hkl, rfl, ?_, HB5.out.setCell (p := ⟨w2.heap.size, 0, none⟩) (Nat.le_refl _) _⟩, ?_⟩
        · rw [HT.out]; exact blk_set HN5.out _
        show done.length - ((k : Int) + 1).toNat < done.length - (k : Int).toNat
        omega
      · obtain rfl : k = leadK done := by omega
        rcases Nat.lt_or_ge (leadK done) done.length with hlt | hlt
        case' inl =>
          have hk1 : (leadK done : Int) < (done.length : Int) := by omega
          obtain rfl := HA.out (by omega)
          have hc := HC.out _ hlt
          have hcr := (HB.out.cell (p := ⟨g, leadK done, none⟩) (cell_lt hc)).trans hc
          have hx := leadK_at done hlt
          have e1 : (done[leadK done].toList == ByteArray.toList ⟨#[]⟩) = true := by rw [(size_zero_iff _).1 hx, (size_zero_iff ⟨#[]⟩).1 rfl]; rfl
          have e2 : done[leadK done].toList.isEmpty = true := by rw [(size_zero_iff _).1 hx]; rfl
          generalize done[leadK done] = x at hcr e1 e2
          clear hx hc hlt
        case' inr =>
          have hk2 : ¬ (leadK done : Int) < (done.length : Int) := by omega
          clear hlt
        all_goals
          have hlk9 : (leadK done : Int) ≤ 100000000 := by omega
          go_wp2_with fail
          have hst : textR done = joinB (done.take (leadK done)) := rfl
          rw [← hst] at HN
          clear hst n0 nf0 hk hkl
          go_loopw [8] (fun i wr => R2Rel w2 done i wr) (fun i _ => done.length - (intOf i).toNat)
          case atStart => exact ⟨0, _, Nat.zero_le _, rfl, rfl, HN.out, ownL_nil _ _, HB.out⟩
          case round =>
            clear HN HB
            obtain ⟨j, v, hj, rfl, hall, hn, hO, hB⟩ := hrel
            have HN := Lib.hid hn
            have HB := Lib.hid hB
            have HO := Lib.hid hO
            have HAll := Lib.hid hall
            have hlen := restR_len done
            have hr2 := blk_later HR2.out hB
            have HR := Lib.hid hr2
            have HKw := Lib.hid (HK.out.trans (hB.mono HK.out.size))
            have r0 := cell_of_blk hr2 0 (v := .string ⟨#[]⟩) rfl
            have r1 := cell_of_blk hr2 1 (v := .slice none 0 0) rfl
            have rf0 := free_of_blk hr2 0
            have rf1 := free_of_blk hr2 1
            clear hn hB hO hall hr2
            have hp0 : (0 : Int) ≤ ((leadK done + 1 + j : Nat) : Int) := Int.natCast_nonneg _
            by_cases hlt : j < (restR done).length
            · (try (exfalso; omega))
              all_goals
                obtain ⟨h2, hget⟩ := restR_get done j hlt
                have hmem : done[leadK done + 1 + j] ∈ restR done := by rw [← hget]; exact List.getElem_mem hlt
                have htk : (restR done).take (j + 1) = (restR done).take j ++ [done[leadK done + 1 + j]] := by rw [List.take_succ_eq_append_getElem hlt, hget]
                have hp1 : ((leadK done + 1 + j : Nat) : Int) < (done.length : Int) := by omega
                have hp2 : ((leadK done + 1 + j : Nat) : Int) < (leadK done : Int) + 20 := by omega
                have hp3 : ((leadK done + 1 + j : Nat) : Int) + 1 = ((leadK done + 1 + (j + 1) : Nat) : Int) := by omega
                have hp4 : done.length - (((leadK done + 1 + j : Nat) : Int) + 1).toNat < done.length - (((leadK done + 1 + j : Nat) : Int)).toNat := by omega
                have HP3 := Lib.hid hp3
                have HP4 := Lib.hid hp4
                have hao2 := HA.out (by omega)
                try subst hao2
                have hc := HC.out _ h2
                have hcr := (HB.out.cell (p := ⟨g, leadK done + 1 + j, none⟩) (cell_lt hc)).trans hc
                have hzx : done[leadK done + 1 + j].size ≤ s.size := by
                  have h5 := joinB_take_le done (leadK done + 1 + j + 1)
                  rw [HJ.out, List.take_succ_eq_append_getElem h2, joinB_snoc, ByteArray.size_append, ByteArray.size_append] at h5
                  omega
                generalize done[leadK done + 1 + j] = x at hcr hmem htk hzx
                have HM := Lib.hid hmem
                have HTk := Lib.hid htk
                have hbad : sigAll x = false → res = (nt0, 3) := fun hb => HE.out.trans (readL_bad hmem hb)
                have HBad := Lib.hid hbad
                clear hc hmem htk hbad hget h2 hp3 hp4
                generalize hq : leadK done + 1 + j = p at *
                clear hq
                by_cases h69 : (x.size : Int) < 69
                · have hb : sigAll x = false := by unfold sigAll sigOk; rw [decide_eq_false (show ¬ 69 ≤ x.size by omega)]; rfl
                  have HX := Lib.hid (HBad.out hb)
                  clear hb
                  go_wp2_with fail
                  exact rbad_ret HR.out HKw.out HX.out rfl rfl rfl rfl
                have d69 : decide (69 ≤ x.size) = true := decide_eq_true (by omega)
                have s4 : (4 : Int) ≤ (x.size : Int) := by omega
                have s68 : (68 : Int) ≤ (x.size : Int) := by omega
                have s69 : (69 : Int) ≤ (x.size : Int) := by omega
                by_cases hw4 : x.extract 0 4 = sigW
                case neg =>
                  have hb : sigAll x = false := by unfold sigAll sigOk; rw [d69, decide_eq_false hw4]; rfl
                  have HX := Lib.hid (HBad.out hb)
                  have e4 : ¬ (x.extract 0 4).toList = [115, 105, 103, 32] := by rw [ByteArray.toList_eq]; exact fun h => hw4 (ba_ext h)
                  clear hb d69 hw4
                  go_wp2_with fail
                  exact rbad_ret HR.out HKw.out HX.out rfl rfl rfl rfl
                have e4 : (x.extract 0 4).toList = [115, 105, 103, 32] := by rw [ByteArray.toList_eq, hw4]; rfl
                have d4 : decide (x.extract 0 4 = sigW) = true := decide_eq_true hw4
                have hix : ∀ W, (Instr.index 9 (.string x) (.int .i64 68)).run Tryz.prog W = .ok (.int .u8 (x.data.toList.getD 68 0).toNat) W := fun W => idx_str x 68 (by omega) W
                have hsa : sigAll x = ((decide (x.data.toList.getD 68 0 = 32)) && sigTwo x) := by unfold sigAll sigOk; rw [d69, d4]; rfl
                have HSA := Lib.hid hsa
                clear hsa d69 d4 hw4
                generalize x.data.toList.getD 68 0 = ch at hix HSA
                by_cases hch : ch = 32
                case neg =>
                  have hb : sigAll x = false := by rw [HSA.out, decide_eq_false hch]; rfl
                  have HX := Lib.hid (HBad.out hb)
                  have hcb : ((ch.toNat : Int) == 32) = false := beq_eq_false_iff_ne.2 (fun h => hch (by apply UInt8.toNat_inj.1; show ch.toNat = 32; omega))
                  have hcn : ((ch.toNat : Int) != 32) = true := by rw [bne, hcb]; rfl
                  clear hb hch
                  go_wp2_with fail
                  exact rbad_ret HR.out HKw.out HX.out rfl rfl rfl rfl
                have hcb : ((ch.toNat : Int) == 32) = true := by rw [hch]; rfl
                have hcn : ((ch.toNat : Int) != 32) = false := by rw [bne, hcb]; rfl
                have hsa2 : sigAll x = sigTwo x := by rw [HSA.out, decide_eq_true hch]; rfl
                have HSA2 := Lib.hid hsa2
                have hR : sigR x = ((unhexB (x.extract 4 68)).1, (unhexB (x.extract 69 x.size)).1) := rfl
                have HRx := Lib.hid hR
                have ht2 : sigTwo x = ((unhexB (x.extract 4 68)).2 && (unhexB (x.extract 69 x.size)).2) := rfl
                have HT2 := Lib.hid ht2
                have HU1 := Lib.hid (fun W => runhex_any (x.extract 4 68) W (by rw [ByteArray.size_extract]; omega))
                have HU2 := Lib.hid (fun W => runhex_any (x.extract 69 x.size) W (by rw [ByteArray.size_extract]; omega))
                clear hsa2 hR ht2 HSA hch
                generalize (unhexB (x.extract 4 68)).1 = ua at HU1 HRx
                generalize (unhexB (x.extract 4 68)).2 = ub at HU1 HT2
                generalize (unhexB (x.extract 69 x.size)).1 = va at HU2 HRx
                generalize (unhexB (x.extract 69 x.size)).2 = vb at HU2 HT2
                go_wp2_with fail
                refine (HU1.out _).mono ?_
                rintro e w3 ⟨rfl, hb3⟩
                have HB3 := Lib.hid hb3
                clear hb3
                go_wp2_with fail
                refine (HU2.out _).mono ?_
                rintro e w4 ⟨rfl, hb4⟩
                have hb5 : Below wr.heap.size wr w4 := HB3.out.trans (hb4.mono HB3.out.size)
                clear r0 r1 rf0 rf1 hcr e4 hix hcb hcn
                have HB4 := Lib.hid (HB.out.trans (hb5.mono HB.out.size))
                have HN4 := Lib.hid (blk_later HN.out hb5)
                have HO4 := Lib.hid (show OwnG w4 (w2.heap.size + 1) v _ from OwnL.below HO.out hb5)
                have HR4 := Lib.hid (blk_later HR.out hb5)
                have HKw4 := Lib.hid (HKw.out.trans (hb5.mono HKw.out.size))
                clear hb4 hb5 HB3 HN HO HR HKw HB HU1 HU2
                have r0 := cell_of_blk HR4.out 0 (v := .string ⟨#[]⟩) rfl
                have r1 := cell_of_blk HR4.out 1 (v := .slice none 0 0) rfl
                have rf0 := free_of_blk HR4.out 0
                have rf1 := free_of_blk HR4.out 1
                have n1 := cell_of_blk HN4.out 1 (v := v) rfl
                have nf1 := free_of_blk HN4.out 1
                cases ub with
                | false =>
                  have hb : sigAll x = false := by rw [HSA2.out, HT2.out]; rfl
                  have HX := Lib.hid (HBad.out hb)
                  clear hb
                  go_wp2_with fail
                  exact rbad_ret HR4.out HKw4.out HX.out rfl rfl rfl rfl
                | true =>
                  cases vb with
                  | false =>
                    have hb : sigAll x = false := by rw [HSA2.out, HT2.out]; rfl
                    have HX := Lib.hid (HBad.out hb)
                    clear hb
                    go_wp2_with fail
                    exact rbad_ret HR4.out HKw4.out HX.out rfl rfl rfl rfl
                  | true =>
                    have hb : sigAll x = true := by rw [HSA2.out, HT2.out]; rfl
                    have hall2 : ((restR done).take (j + 1)).all sigAll = true := by rw [HTk.out, List.all_append, HAll.out]; simp [hb]
                    have hmap2 : ((restR done).take (j + 1)).map sigR = ((restR done).take j).map sigR ++ [(ua, va)] := by rw [HTk.out, List.map_append]; simp [HRx.out]
                    have HAll2 := Lib.hid hall2
                    have HMap2 := Lib.hid hmap2
                    have hlj : (((restR done).take j).map sigR).length ≤ 19 := by rw [List.length_map, List.length_take]; omega
                    clear hb hall2 hmap2 HBad HSA2 HT2 HRx HTk HM HAll
                    generalize ((restR done).take j).map sigR = L at HO4 HMap2 hlj
                    obtain ⟨i0, hi, hz0, hz1, hz2⟩ := info_parts infoSig
                    have HI2 := Lib.hid hz2
                    clear hz2
                    go_wp2_with (first | (at_builtin; refine wpList_appL _ rfl _ _ 41 rfl i0 (.agg #[.string ⟨#[]⟩, .string ⟨#[]⟩]) 32 Tryz.underlying41 hi hz0 hz1 HI2.out rfl (by decide) (w2.heap.size + 1) v L rfl (OwnL.alloc HO4.out _) (ua, va) rfl ⟨w4.heap.size, 0, none⟩ 1 rfl (one_sig w4 (ua, va) _) ?_ ?_ (by decide) ?_ ?_) | fail)
                    · exact ⟨rfl, rfl⟩
                    · omega
                    · rw [size_alloc]; have := (Array.getElem?_eq_some_iff.1 HN4.out).1; omega
                    intro v5 w5 ho5 hg5 hown5
                    obtain ⟨ao5, cap5, rfl, -, -, -⟩ := OwnL.form ho5
                    have hlt4 := (Array.getElem?_eq_some_iff.1 HN4.out).1
                    have hl1 : (L ++ [(ua, va)]).length = L.length + 1 := by rw [List.length_append]; rfl
                    rw [hl1] at ho5
                    have hown4 := OwnL.lt HO4.out
                    have hk5 : Kp (fun k => v.ownBlock = some k) w4 w5 := ((Kp.refl (fun k => v.ownBlock = some k) w4).alloc _).grown hg5 (fun k h => .inl h)
                    have hn5 := blk_kp HN4.out hk5 (fun h => by have := (hown4 _ h).1; omega)
                    have hB5 := HB4.out.trans (hk5.toBelow (B := w2.heap.size) (by omega) (fun k h => by have := (hown4 _ h).1; omega))
                    have HB5 := Lib.hid hB5
                    have HN5 := Lib.hid hn5
                    have HO5 := Lib.hid ho5
                    clear hk5 hown4 hB5 ho5 hg5 hown5 r0 r1 rf0 rf1 n1 nf1 hi hz0 hz1
                    have n1 := cell_of_blk hn5 1 (v := v) rfl
                    have nf1 := free_of_blk hn5 1
                    clear hn5
                    go_wp2_with fail
                    refine ⟨⟨j + 1, _, hlt, ?_, HAll2.out, blk_set HN5.out _, ?_, HB5.out.setCell (p := ⟨w2.heap.size, 1, none⟩) (Nat.le_refl _) _⟩, ?_⟩
                    · rw [HP3.out]
                    · rw [HMap2.out]
                      exact OwnL.kp HO5.out ((Kp.refl (fun k => k = w2.heap.size) w5).setCell (p := ⟨w2.heap.size, 1, none⟩) (.inl rfl) _) (fun g hg => by have := (OwnL.lt HO5.out g hg).1; omega)
                    · exact HP4.out
            · obtain rfl : j = (restR done).length := by omega
              have hall := HAll.out
              have hO9 := HO.out
              rw [List.take_length] at hall hO9
              have hres : res = if fmtV (textR done) ((restR done).map sigR) = (s, 0) then ((textR done, (restR done).map sigR), 0) else (nt0, 3) := by
                rw [HE.out]; unfold readL; rw [if_pos hall]
              have htz : (textR done).size ≤ s.size := by have := joinB_take_le done (leadK done); rw [HJ.out] at this; exact this
              have hll : ((restR done).map sigR).length ≤ 19 := by rw [List.length_map]; omega
              have HRs := Lib.hid hres
              have HO9 := Lib.hid hO9
              have hlt9 : w2.heap.size < wr.heap.size := (Array.getElem?_eq_some_iff.1 HN.out).1
              clear hall hO9 hres HO HAll hlt hj
              generalize (restR done).map sigR = L at HRs HO9 hll
              obtain ⟨ad, cap9, rfl, hsg⟩ := OwnG.sigs HO9.out
              have n0 := cell_of_blk HN.out 0 (v := .string (textR done)) rfl
              have n1 := cell_of_blk HN.out 1 (v := .slice ad L.length cap9) rfl
              have HF := Lib.hid (rformat_any (textR done) ad L cap9 wr (by omega) (by omega) hsg)
              generalize textR done = tx at HF HRs HN n0 htz
              clear hsg
              generalize hq : fmtV tx L = q at HF HRs
              clear hq
              by_cases hi : ((leadK done + 1 + (restR done).length : Nat) : Int) < (done.length : Int)
              case' pos =>
                (try (exfalso; omega))
                all_goals have hi2 : ¬ ((leadK done + 1 + (restR done).length : Nat) : Int) < (leadK done : Int) + 20 := by omega
              all_goals
                clear hlen
                generalize ((leadK done + 1 + (restR done).length : Nat) : Int) = iz at *
                go_wp2_with fail
                refine HF.out.mono ?_
                rintro e w5 ⟨rfl, hb5⟩
                have HN5 := Lib.hid (blk_later HN.out hb5)
                have HR5 := Lib.hid (blk_later HR.out hb5)
                have HO5 := Lib.hid (show OwnG w5 (w2.heap.size + 1) (.slice ad L.length cap9) L from OwnL.below HO9.out hb5)
                have HK5 := Lib.hid (HKw.out.trans (hb5.mono HKw.out.size))
                clear hb5 HF n0 n1 r0 r1 rf0 rf1
                have n0 := cell_of_blk HN5.out 0 (v := .string tx) rfl
                have n1 := cell_of_blk HN5.out 1 (v := .slice ad L.length cap9) rfl
                have r0 := cell_of_blk HR5.out 0 (v := .string ⟨#[]⟩) rfl
                have r1 := cell_of_blk HR5.out 1 (v := .slice none 0 0) rfl
                have rf0 := free_of_blk HR5.out 0
                have rf1 := free_of_blk HR5.out 1
                by_cases hq : q.2 = 0
                · have hq2b : (q.2 == 0) = true := beq_iff_eq.2 hq
                  have hq2n : (q.2 != 0) = false := by rw [bne, hq2b]; rfl
                  by_cases hq1 : q.1 = s
                  · have hq1b : (q.1.toList == s.toList) = true := by rw [hq1]; exact beq_self_eq_true _
                    have hres : res = ((tx, L), 0) := by rw [HRs.out, if_pos (Prod.ext hq1 hq)]
                    have HX := Lib.hid hres
                    clear hres hq1
                    go_wp2_with fail
                    have hne : w2.heap.size ≠ w.heap.size := by
                      have := (Array.getElem?_eq_some_iff.1 HR2.out).1; omega
                    have hr6 : ((w5.setCell ⟨w.heap.size, 0, none⟩ (.string tx)).setCell ⟨w.heap.size, 1, none⟩ (.slice ad L.length cap9)).heap[w.heap.size]? = some (.cells #[.string tx, .slice ad L.length cap9] 69 (0, 0)) := blk_set (blk_set HR5.out _) _
                    have hlt2 := (Array.getElem?_eq_some_iff.1 HR2.out).1
                    have hk6 : Kp (fun k => k = w.heap.size) w5 ((w5.setCell ⟨w.heap.size, 0, none⟩ (.string tx)).setCell ⟨w.heap.size, 1, none⟩ (.slice ad L.length cap9)) := ((Kp.refl (fun k => k = w.heap.size) w5).setCell (p := ⟨w.heap.size, 0, none⟩) (.inl rfl) _).setCell (p := ⟨w.heap.size, 1, none⟩) (.inl rfl) _
                    exact rok_ret hr6 (OwnL.base (OwnL.kp HO5.out hk6 (fun g hg => by have := (OwnL.lt HO5.out g hg).1; omega)) (fun g hg => by have := (OwnL.lt HO5.out g hg).1; omega)) (HK5.out.trans (hk6.toBelow HK5.out.size (fun i hi => by omega))) HX.out rfl rfl rfl rfl
                  · have hq1b : (q.1.toList == s.toList) = false := by rw [toList_eqbV]; exact decide_eq_false hq1
                    have hres : res = (nt0, 3) := by rw [HRs.out, if_neg (fun h => hq1 (congrArg Prod.fst h))]
                    have HX := Lib.hid hres
                    clear hres hq1
                    go_wp2_with fail
                    exact rbad_ret HR5.out HK5.out HX.out rfl rfl rfl rfl
                · have hq2b : (q.2 == 0) = false := beq_eq_false_iff_ne.2 hq
                  have hq2n : (q.2 != 0) = true := bne_iff_ne.2 hq
                  have hres : res = (nt0, 3) := by rw [HRs.out, if_neg (fun h => hq (congrArg Prod.snd h))]
                  have HX := Lib.hid hres
                  clear hres
                  go_wp2_with fail
                  exact rbad_ret HR5.out HK5.out HX.out rfl rfl rfl rfl
end Go.Proofs.YtmejjphliaiamaaGreatDoor
