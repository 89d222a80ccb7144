import Derived.Test.YtobepddifflpdaaMirD
import Derived.Test.YtobepddifflpdaaWiE
import Derived.Test.YtobepddifflpdaaWiB
import Derived.BigQuiet
import Derived.Deep.QuietTactic
set_option linter.unusedVariables false
namespace Go.Proofs.Ytobepddifflpdaa
open Go Go.RowKit Go.Lib

/-! ### the document's files: the first one of a path -/
abbrev FileT := ByteArray × ByteArray × Int
def getL (p : ByteArray) : List FileT → ByteArray × Int
  | [] => (⟨#[]⟩, 5)
  | f :: r => if f.1 = p then (if f.2.2 ≠ 0 then (⟨#[]⟩, f.2.2) else (f.2.1, 0)) else getL p r
/-- a slice of files in memory. -/
def FilesM (w : World) (ad : Option Addr) (L : List FileT) : Prop :=
  ∀ i f, L[i]? = some f → ∃ pb po, ad = some ⟨pb, po, none⟩ ∧ w.cell? ⟨pb, po + i * 3, none⟩ = some (.string f.1) ∧ w.cell? ⟨pb, po + i * 3 + 1, none⟩ = some (.string f.2.1) ∧ w.cell? ⟨pb, po + i * 3 + 2, none⟩ = some (.int .i64 f.2.2)
theorem FilesM.below {w w' : World} {ad : Option Addr} {L : List FileT} (h : FilesM w ad L) (k : Below w.heap.size w w') : FilesM w' ad L := by
  intro i f hf
  obtain ⟨pb, po, e, h1, h2, h3⟩ := h i f hf
  exact ⟨pb, po, e, (k.cell (cell_lt h1)).trans h1, (k.cell (cell_lt h2)).trans h2, (k.cell (cell_lt h3)).trans h3⟩
theorem toList_eqb (s b : ByteArray) : (s.toList == b.toList) = decide (s = b) := by
  rw [Bool.eq_iff_iff, decide_eq_true_eq, beq_iff_eq]
  refine ⟨fun h => ?_, fun h => by rw [h]⟩
  rw [ByteArray.toList_eq, ByteArray.toList_eq] at h
  exact WideShapes.bytes_inj h
def GetRel (p : ByteArray) (L : List FileT) (w : World) (i : Value) (wr : World) : Prop := ∃ k : Nat, k ≤ L.length ∧ i = .int .i64 k ∧ getL p L = getL p (L.drop k) ∧ w = wr

set_option maxRecDepth 100000 in
set_option maxHeartbeats 1000000 in
theorem get_any (ad : Option Addr) (L : List FileT) (c : Nat) (p : ByteArray) (w : World) (hL : FilesM w ad L) (hn : L.length ≤ 9223372036854775807) :
    Calls Try.prog 23 #[.slice ad L.length c, .string p] w fun e w' => e = .returned (.tuple #[.string (getL p L).1, .int .i64 (getL p L).2]) ∧ Below w.heap.size w w' := by
  have HL := Lib.hid hL
  clear hL
  go_enter Try.func23, Try.ntmps23
  go_wp2_with fail
  go_loopw [6] (fun i wr => GetRel p L w i wr) (fun i _ => L.length - (intOf i).toNat)
  case atStart => exact ⟨0, Nat.zero_le _, rfl, rfl, rfl⟩
  case round =>
    obtain ⟨k, hk, rfl, hg, rfl⟩ := hrel
    have HG := Lib.hid hg
    clear hg
    by_cases hlt : k < L.length
    · obtain ⟨pb, po, rfl, c0, c1, c2⟩ := HL.out k L[k] (List.getElem?_eq_getElem hlt)
      have hdrop : L.drop k = L[k] :: L.drop (k + 1) := List.drop_eq_getElem_cons hlt
      generalize hF : L[k] = f at c0 c1 c2 hdrop
      have hgd : getL p L = if f.1 = p then (if f.2.2 ≠ 0 then (⟨#[]⟩, f.2.2) else (f.2.1, 0)) else getL p (L.drop (k + 1)) := by rw [HG.out, hdrop]; rfl
      have HD := Lib.hid hgd
      clear hdrop hgd hF
      by_cases hp : f.1 = p
      · have hb : (f.1.toList == p.toList) = true := by rw [toList_eqb]; exact decide_eq_true hp
        by_cases he : f.2.2 ≠ 0
        · have hres : getL p L = (⟨#[]⟩, f.2.2) := by rw [HD.out, if_pos hp, if_pos he]
          have HR := Lib.hid hres
          have hb2 : (f.2.2 == 0) = false := beq_eq_false_iff_ne.2 he
          clear hres hp he
          go_wp2_with fail
          have hk0 : (0 : Int) ≤ (k : Int) := Int.natCast_nonneg _
          have hk1 : (k : Int) < (L.length : Int) := by omega
          go_quiet (fail)
          go_wp2_with fail
          go_ret2
          exact ⟨by rw [HR.out]; rfl, rfl, rfl, rfl, Nat.le_refl _, fun _ _ => rfl⟩
        · have hres : getL p L = (f.2.1, 0) := by rw [HD.out, if_pos hp, if_neg he]
          have HR := Lib.hid hres
          have hb2 : (f.2.2 == 0) = true := beq_iff_eq.2 (by omega)
          clear hres hp he
          go_wp2_with fail
          go_ret2
          exact ⟨by rw [HR.out]; rfl, Below.refl _ _⟩
      · have hb : (f.1.toList == p.toList) = false := by rw [toList_eqb]; exact decide_eq_false hp
        have hres : getL p L = getL p (L.drop (k + 1)) := by rw [HD.out, if_neg hp]
        have HR := Lib.hid hres
        clear hres hp
        go_wp2_with fail
        refine ⟨⟨k + 1, hlt, rfl, HR.out, rfl⟩, ?_⟩
        show L.length - ((k : Int) + 1).toNat < L.length - (k : Int).toNat
        omega
    · have hkn : k = L.length := by omega
      subst hkn
      have hres : getL p L = (⟨#[]⟩, 5) := by rw [HG.out, List.drop_length]; rfl
      have HR := Lib.hid hres
      clear hres
      go_wp2_with fail
      go_ret2
      exact ⟨by rw [HR.out]; rfl, Below.refl _ _⟩

/-- the law's source of files. -/
def SrcAt (w : World) (sb : Nat) (ad : Option Addr) (L : List FileT) (c : Nat) : Prop := w.cell? ⟨sb, 0, none⟩ = some (.slice ad L.length c) ∧ FilesM w ad L
theorem SrcAt.below {w w' : World} {sb : Nat} {ad : Option Addr} {L : List FileT} {c : Nat} (h : SrcAt w sb ad L c) (k : Below w.heap.size w w') : SrcAt w' sb ad L c := ⟨(k.cell (cell_lt h.1)).trans h.1, h.2.below k⟩
theorem srcfile_any (sb : Nat) (ad : Option Addr) (L : List FileT) (c : Nat) (p : ByteArray) (w : World) (hS : SrcAt w sb ad L c) (hn : L.length ≤ 9223372036854775807) :
    Calls Try.prog 98 #[.pointer (some ⟨sb, 0, none⟩), .string p] w fun e w' => e = .returned (.tuple #[.string (getL p L).1, .int .i64 (getL p L).2]) ∧ Below w.heap.size w w' := by
  have HC := Lib.hid (get_any ad L c p w hS.2 hn)
  have c0 := hS.1
  clear hS
  go_enter Try.func98, Try.ntmps98
  go_wp2_with fail
  refine HC.out.mono ?_
  rintro e w1 ⟨rfl, hb⟩
  have HB := Lib.hid hb
  clear hb
  go_wp2_with fail
  go_ret2
  exact ⟨rfl, HB.out⟩

/-! ### a nil mirror -/
theorem drop_nil (p : ByteArray) (w : World) :
    Calls Try.prog 9 #[.pointer none, .string p] w fun e w' => e = .returned (.bool false) ∧ Below w.heap.size w w' := by
  go_enter Try.func9, Try.ntmps9
  go_wp2_with fail
  refine (file_nil p w).mono ?_
  rintro e w1 ⟨rfl, hb⟩
  have HB := Lib.hid hb
  clear hb
  go_wp2_with fail
  go_ret
  exact ⟨rfl, HB.out⟩
theorem pathsn_any (w : World) :
    Calls Try.prog 20 #[.pointer none] w fun e w' => e = .returned (.slice none 0 0) ∧ Below w.heap.size w w' := by
  go_enter Try.func20, Try.ntmps20
  go_wp2_with fail
  go_ret
  exact ⟨rfl, Below.refl _ _⟩
set_option maxRecDepth 100000 in
theorem answer_nil (id fr mo : Int) (p : ByteArray) (w : World) :
    Calls Try.prog 8 #[.pointer none, .agg #[.int .i64 id, .string p, .int .i64 fr, .int .i64 mo]] w (RetB (.agg #[.int .i64 id, .int .i64 5, .int .i64 0, .string ⟨#[]⟩]) w) := by
  go_enter Try.func8, Try.ntmps8
  go_wp2_with fail
  refine (file_nil p _).mono ?_
  rintro e w1 ⟨rfl, hb⟩
  obtain ⟨⟨c0, c1, c2, c3⟩, k1, hB⟩ := two_blocks hb
  obtain ⟨⟨d0, d1, d2, d3⟩, df⟩ := four_cells k1
  have HB := Lib.hid hB
  have hsz : w.heap.size + 1 < w1.heap.size := (Array.getElem?_eq_some_iff.1 k1).1
  clear hb k1 hB
  go_wp2_with fail
  refine bodyPost_ret (v := .agg #[.int .i64 id, .int .i64 5, .int .i64 0, .string ⟨#[]⟩]) (by simp [results, Try.results8, go_sem, d0, d1, d2, d3]) rfl ⟨rfl, ?_⟩
  exact (((HB.out.setCell (Nat.le_succ _) _).setCell (Nat.le_succ _) _).setCell (Nat.le_succ _) _).setCell (Nat.le_succ _) _
end Go.Proofs.Ytobepddifflpdaa
