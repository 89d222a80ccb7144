import Derived.Test.YtmejjphliaiamaaGreatDoorRf
import Derived.Test.YtmejjphliaiamaaGreatDoorNoC
import Derived.RangeFuncNested
import Derived.RangeFuncBound
import Derived.RangeFuncCalls
import Derived.RangeFuncLeaves
import Derived.Shelf.Abstract
import Derived.Shelf.RegionOpen
import Derived.OwnWalkIn
import Derived.TacticsInMore
import Derived.LoopNIn
import Derived.LoopIn
set_option linter.unusedVariables false
set_option linter.unusedSimpArgs false
namespace Go.Proofs.YtmejjphliaiamaaGreatDoor
open Go Go.RowKit Go.Lib Go.Shelf
attribute [local go_sem] Oper.semAt_some

/-! ### strings.SplitSeq at a newline -/
theorem pcs_none {s : ByteArray} (h : Lib.indexByte s.data.toList 10 = -1) : pcs s = [s] := by
  rw [← Lib.index_one] at h
  unfold pcs
  rw [Lib.countB_miss s nlB h]
  rfl
theorem pcs_some {s : ByteArray} {i : Nat} (h : Lib.indexByte s.data.toList 10 = i) : pcs s = s.extract 0 i :: pcs (s.extract (i + 1) s.size) := by
  rw [← Lib.index_one] at h
  have h1 := Lib.countB_hit s nlB i (by decide) h
  unfold pcs
  rw [h1, Nat.add_comm 1]
  exact Lib.splitB_hit nlB 0 _ s i h
theorem ix_cases (s : ByteArray) : Lib.indexByte s.data.toList 10 = -1 ∨ ∃ i : Nat, Lib.indexByte s.data.toList 10 = i ∧ i < s.size := by
  rw [← Lib.index_one]
  rcases Lib.index_spec s.data.toList [10] with ⟨h1, _⟩ | ⟨i, h1, h2, h3, _⟩
  · exact .inl h1
  · refine .inr ⟨i, h1, ?_⟩
    have hr := Lib.index_room s.data.toList [10] (by rw [h1]; exact Int.natCast_nonneg _)
    rw [h1] at hr
    have e : s.data.toList.length = s.size := Array.length_toList
    have e1 : ([10] : List UInt8).length = 1 := rfl
    omega

/-- a contract of the plain kind, met by a fenced walk. -/
theorem wide_calls {P : Program} {f : FuncId} {args : Array Value} {w : World} {R R' : Ending → World → Prop} {m : Nat} (h : Calls P f args w R) (hR : ∀ e w', R e w' → R' e w') :
    Fence.wide.fn f ∧ (Fence.wide.depth.isSome = true → 1 ≤ m) ∧ CallsIn Fence.wide (m - 1) P f args w R' :=
  ⟨trivial, fun h => by simp [Fence.wide] at h, (callsIn_wide.2 h).mono hR⟩
theorem wide_callsR {P : Program} {f : FuncId} {args : Array Value} {w : World} {R R' : Ending → World → Prop} {m : Nat} (l : Nat) (h : Calls P f args w R) (hR : ∀ e w', R e w' → R' e w') :
    (Fence.wide.inRound l).fn f ∧ ((Fence.wide.inRound l).depth.isSome = true → 1 ≤ m) ∧ CallsIn (Fence.wide.inRound l) (m - 1) P f args w R' :=
  ⟨trivial, fun h => by simp [Fence.wide, Fence.inRound] at h, CallsIn.inRound l ((callsIn_wide.2 h).mono hR)⟩

theorem wide_call2 {P : Program} {f : FuncId} {args : Array Value} {w : World} {R R' : Ending → World → Prop} {m : Nat} (h : Calls P f args w R) (hR : ∀ e w', R e w' → R' e w') :
    Fence.wide.fn f ∧ CallsIn Fence.wide m P f args w R' := ⟨trivial, (callsIn_wide.2 h).mono hR⟩
theorem wide_call2R {P : Program} {f : FuncId} {args : Array Value} {w : World} {R R' : Ending → World → Prop} {m l : Nat} (h : Calls P f args w R) (hR : ∀ e w', R e w' → R' e w') :
    (Fence.wide.inRound l).fn f ∧ CallsIn (Fence.wide.inRound l) m P f args w R' := ⟨trivial, CallsIn.inRound l ((callsIn_wide.2 h).mono hR)⟩

structure SeqC (w : World) (b : Nat) (s : ByteArray) : Prop where
  h0 : w.heap[b]? = some (.cells #[.string s] 9 (0, 0))
  h1 : w.heap[b + 1]? = some (.cells #[.string ⟨#[10]⟩] 9 (0, 0))
  h2 : w.heap[b + 2]? = some (.cells #[.int .i64 0] 3 (0, 0))
theorem SeqC.cells {w : World} {b : Nat} {s : ByteArray} (h : SeqC w b s) : w.cell? ⟨b, 0, none⟩ = some (.string s) ∧ w.cell? ⟨b + 1, 0, none⟩ = some (.string ⟨#[10]⟩) ∧ w.cell? ⟨b + 2, 0, none⟩ = some (.int .i64 0) :=
  ⟨cell_of_blk h.h0 0 rfl, cell_of_blk h.h1 0 rfl, cell_of_blk h.h2 0 rfl⟩
def SeqR (b k : Nat) : Prop := k = b ∨ k = b + 1 ∨ k = b + 2
theorem SeqC.same {w w' : World} {b : Nat} {s : ByteArray} (h : SeqC w b s) (k : ∀ i, SeqR b i → w'.heap[i]? = w.heap[i]?) : SeqC w' b s :=
  ⟨(k _ (.inl rfl)).trans h.h0, (k _ (.inr (.inl rfl))).trans h.h1, (k _ (.inr (.inr rfl))).trans h.h2⟩
def seqVal (b : Nat) : Value := .func (.func 204) #[] #[.pointer (some ⟨b + 1, 0, none⟩), .pointer (some ⟨b, 0, none⟩), .pointer (some ⟨b + 2, 0, none⟩)]

set_option maxRecDepth 100000 in
theorem seq_any (s : ByteArray) (w : World) :
    Calls Tryz.prog 142 #[.string s, .string ⟨#[10]⟩] w fun e w' => e = .returned (seqVal w.heap.size) ∧ SeqC w' w.heap.size s ∧ Below w.heap.size w w' ∧ w'.heap.size = w.heap.size + 3 := by
  have hin : ∀ W : World, Calls Tryz.prog 173 #[.string s, .string ⟨#[10]⟩, .int .i64 0] W fun e w' => e = .returned (seqVal W.heap.size) ∧ SeqC w' W.heap.size s ∧ Below W.heap.size W w' ∧ w'.heap.size = W.heap.size + 3 := by
    intro W
    go_enter Tryz.func173, Tryz.ntmps173
    go_wp2_with fail
    go_ret
    refine ⟨rfl, ⟨blk_alloc (blk_new1 _ _ _) _, blk_alloc (blk_new2 _ _ _) _, ?_⟩, (((Below.refl _ _).alloc (Nat.le_refl _) _).alloc (by rw [size_alloc]; omega) _).alloc (by rw [size_alloc, size_alloc]; omega) _, by simp⟩
    have h := blk_new ((W.alloc (.cells #[.string s] 9)).alloc (.cells #[.string ⟨#[10]⟩] 9)) (.cells #[.int .i64 0] 3)
    rw [size_alloc, size_alloc] at h
    exact h
  have HIN := Lib.hid hin
  clear hin
  unfold seqVal at HIN
  go_enter Tryz.func142, Tryz.ntmps142
  go_wp2_with fail
  refine (HIN.out _).mono ?_
  rintro e w1 ⟨rfl, h⟩
  have H := Lib.hid h
  clear h
  go_wp2_with fail
  go_ret
  exact ⟨rfl, H.out⟩

def curSz (b : Nat) (w : World) : Nat := match w.cell? ⟨b, 0, none⟩ with
  | some (.string c) => c.size
  | _ => 0
theorem curSz_eq {b : Nat} {w : World} {c : ByteArray} (h : SeqC w b c) : curSz b w = c.size := by
  unfold curSz
  rw [h.cells.1]
def SeqRel (b : Nat) (s : ByteArray) (J : List ByteArray → World → Prop) (wr : World) : Prop := ∃ pre cur, pcs s = pre ++ pcs cur ∧ cur.size ≤ s.size ∧ SeqC wr b cur ∧ J pre wr

set_option maxRecDepth 100000 in
set_option maxHeartbeats 1000000 in
theorem split_stops (m : Nat) (s : ByteArray) (b : Nat) (w : World) (h : SeqC w b s) (hs : s.size ≤ 4000000000) :
    SeqBox (α := ByteArray) m Tryz.prog 204 #[.pointer (some ⟨b + 1, 0, none⟩), .pointer (some ⟨b, 0, none⟩), .pointer (some ⟨b + 2, 0, none⟩)] (fun x => #[.string x]) (fun k => k = b) (SeqR b) (fun xs => xs = pcs s) (fun pre => pre <+: pcs s) w := by
  intro l J Jx W hW hsz hJ hJx hY h0
  have hC : SeqC W b s := h.same hW
  have HC := Lib.hid hC
  have HY := Lib.hid hY
  have HJ := Lib.hid hJ
  clear hW hJx hC hY hJ h
  refine callsIn_of_wp Tryz.func204 rfl trivial ?_ rfl
  simp only [Tryz.ntmps204, List.size_toArray, List.length_cons, List.length_nil, Nat.reduceAdd, Nat.reduceSub, Array.replicate_succ, Array.replicate_zero, List.push_toArray, List.append_toArray, List.nil_append, List.cons_append]
  obtain ⟨-, k1, -⟩ := HC.out.cells
  gi_wp2
  clear k1
  gi_loopw [7] (fun i wr => SeqRel b s J wr) (fun i wr => curSz b wr)
  case atStart => exact ⟨[], s, rfl, Nat.le_refl _, HC.out, h0⟩
  case round =>
    obtain ⟨pre, cur, hp, hcz, hc, hj⟩ := hrel
    have HP := Lib.hid hp
    have HC2 := Lib.hid hc
    have HJ2 := Lib.hid hj
    clear hp hc hj h0
    obtain ⟨k0, k1, k2⟩ := HC2.out.cells
    rcases ix_cases cur with hi | ⟨i, hi, hlt⟩
    · have HX := Lib.hid (fun W => Tryz.strings_Index_one cur 10 W)
      rw [hi] at HX
      have HN := Lib.hid (pcs_none hi)
      clear hi
      obtain ⟨fn, tmps, assign, body, hy, hR⟩ := HY.out pre cur wr (by rw [HP.out, HN.out]; exact List.prefix_refl _) HJ2.out
      have HR := Lib.hid hR
      clear hR
      gi_wp2_with fail
      refine wide_calls (HX.out _) ?_
      rintro e w' ⟨rfl, rfl⟩
      gi_wp2
      refine ⟨fun h => by simp [Fence.wide] at h, HR.out.mono ?_⟩
      rintro e W3 (⟨rfl, hJ3, -⟩ | ⟨rfl, hJx3⟩)
      · have H3 := Lib.hid hJ3
        clear hJ3
        gi_wp2
        go_end0
        exact ⟨⟨_, rfl⟩, .inl ⟨_, by rw [HP.out, HN.out], H3.out⟩⟩
      · have H3 := Lib.hid hJx3
        clear hJx3
        gi_wp2
        go_end0
        exact ⟨⟨_, rfl⟩, .inr ⟨_, by rw [HP.out, HN.out]; exact List.prefix_refl _, H3.out⟩⟩
    · have HX := Lib.hid (fun W => Tryz.strings_Index_one cur 10 W)
      rw [hi] at HX
      have HN := Lib.hid (pcs_some hi)
      clear hi
      have hi0 : (0 : Int) ≤ (i : Int) := Int.natCast_nonneg _
      have hi1 : (i : Int) ≤ (cur.size : Int) := by omega
      have hi2 : (i : Int) + 1 ≤ (cur.size : Int) := by omega
      obtain ⟨fn, tmps, assign, body, hy, hR⟩ := HY.out pre (cur.extract 0 i) wr (by rw [HP.out, HN.out]; exact ⟨pcs (cur.extract (i + 1) cur.size), by rw [List.append_assoc]; rfl⟩) HJ2.out
      have HR := Lib.hid hR
      clear hR
      gi_wp2_with fail
      refine wide_calls (HX.out _) ?_
      rintro e w' ⟨rfl, rfl⟩
      gi_wp2
      refine ⟨fun h => by simp [Fence.wide] at h, HR.out.mono ?_⟩
      rintro e W3 (⟨rfl, hJ3, hz3, hS3⟩ | ⟨rfl, hJx3⟩)
      · have hc3 := HC2.out.same hS3
        have HC3 := Lib.hid hc3
        have H3 := Lib.hid hJ3
        clear hJ3 hc3 k0 k1 k2 hz3 hS3
        obtain ⟨k0, k1, k2⟩ := HC3.out.cells
        have f0 := free_of_blk HC3.out.h0 0
        gi_wp2
        have hKs : Kp (fun k => k = b) W3 (W3.setCell ⟨b, 0, none⟩ (.string (cur.extract (i + 1) cur.size))) := (Kp.refl (fun k => k = b) W3).setCell (p := ⟨b, 0, none⟩) (.inl rfl) _
        have hcs : SeqC (W3.setCell ⟨b, 0, none⟩ (.string (cur.extract (i + 1) cur.size))) b (cur.extract (i + 1) cur.size) := by
          refine ⟨blk_set HC3.out.h0 _, ?_, ?_⟩
          · exact blk_set_other HC3.out.h1 (by omega) _
          · exact blk_set_other HC3.out.h2 (by omega) _
        have hrel2 : SeqRel b s J (W3.setCell ⟨b, 0, none⟩ (.string (cur.extract (i + 1) cur.size))) :=
          ⟨pre ++ [cur.extract 0 i], cur.extract (i + 1) cur.size, by rw [HP.out, HN.out, List.append_assoc]; rfl, by rw [ByteArray.size_extract]; omega, hcs, HJ.out _ _ _ H3.out hKs⟩
        have hm : curSz b (W3.setCell ⟨b, 0, none⟩ (.string (cur.extract (i + 1) cur.size))) < curSz b w' := by
          rw [curSz_eq hcs, curSz_eq HC2.out, ByteArray.size_extract]; omega
        go_roundw
        case rel => exact hrel2
        case measure => exact hm
      · have H3 := Lib.hid hJx3
        clear hJx3
        gi_wp2
        refine bodyPost_ret (results_none rfl _ _ _) rfl ?_
        exact ⟨⟨_, rfl⟩, .inr ⟨_, by rw [HP.out, HN.out]; exact ⟨pcs (cur.extract (i + 1) cur.size), by rw [List.append_assoc]; rfl⟩, H3.out⟩⟩
end Go.Proofs.YtmejjphliaiamaaGreatDoor
