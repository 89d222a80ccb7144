import Derived.Test.YtmejjphliaiamaaGreatDoorProg
import Derived.Test.YtmejjphliaiamaaGreatDoorWd
import Derived.Test.YtmejjphliaiamaaGreatDoorSl
set_option linter.unusedVariables false
namespace Go.Proofs.YtmejjphliaiamaaGreatDoor
open Go Go.RowKit Go.Lib

/-! ### signatures in memory -/
abbrev SigT := ByteArray × ByteArray
def sigV (x : SigT) : Value := .agg #[.string x.1, .string x.2]
def SigsM (w : World) (ad : Option Addr) (L : List SigT) : Prop :=
  ∀ i f, L[i]? = some f → ∃ pb po, ad = some ⟨pb, po, none⟩ ∧ w.cell? ⟨pb, po + i * 2, none⟩ = some (.string f.1) ∧ w.cell? ⟨pb, po + i * 2 + 1, none⟩ = some (.string f.2)
theorem SigsM.below {w w' : World} {ad : Option Addr} {L : List SigT} (h : SigsM w ad L) (k : Below w.heap.size w w') : SigsM w' ad L := by
  intro i f hf
  obtain ⟨pb, po, e, h1, h2⟩ := h i f hf
  exact ⟨pb, po, e, (k.cell (cell_lt h1)).trans h1, (k.cell (cell_lt h2)).trans h2⟩
def OwnG (w : World) (base : Nat) (v : Value) (L : List SigT) : Prop := OwnL 54 2 (fun x : SigT => [Value.string x.1, Value.string x.2]) w base v L
theorem infoSig : (Tryz.prog.info? 54).map (fun i => (i.zero, i.size, i.bytes)) = some (some (.agg #[.string ⟨#[]⟩, .string ⟨#[]⟩]), 2, 32) := by kernel_rfl
theorem flat2_get (L : List SigT) : ∀ (i : Nat) (f : SigT), L[i]? = some f →
    (L.flatMap (fun x : SigT => [Value.string x.1, Value.string x.2]))[i * 2]? = some (.string f.1) ∧ (L.flatMap (fun x : SigT => [Value.string x.1, Value.string x.2]))[i * 2 + 1]? = some (.string f.2) := by
  induction L with
  | nil => intro i f h; simp at h
  | cons x r ih =>
    intro i f h
    cases i with
    | zero => simp at h; subst h; exact ⟨rfl, rfl⟩
    | succ i =>
      have h2 := ih i f (by simpa using h)
      have e : (i + 1) * 2 = i * 2 + 1 + 1 := by omega
      rw [e]
      exact h2
theorem OwnG.sigs {w : World} {base : Nat} {v : Value} {L : List SigT} (h : OwnG w base v L) : ∃ ad cap, v = .slice ad L.length cap ∧ SigsM w ad L := by
  obtain ⟨ao, cap, hv, -, -, h2⟩ := OwnL.form h
  refine ⟨ao, cap, hv, fun i f hf => ?_⟩
  have hi : i < L.length := (List.getElem?_eq_some_iff.1 hf).1
  obtain ⟨g, hg, -, -, hc⟩ := h2 (by omega)
  obtain ⟨e1, e2⟩ := flat2_get L i f hf
  refine ⟨g, 0, hg, ?_, ?_⟩
  · rw [Nat.zero_add, hc _ (by omega)]; exact e1
  · rw [Nat.zero_add, hc _ (by omega)]; exact e2
theorem one_sig (w : World) (x : SigT) (t : TypeId) : ∀ j u, ([Value.string x.1, Value.string x.2] : List Value)[j]? = some u → (w.alloc (.cells #[.string x.1, .string x.2] t)).cell? ((⟨w.heap.size, 0, none⟩ : Addr).add j) = some u := by
  intro j u hu
  match j with
  | 0 => obtain rfl : Value.string x.1 = u := by simpa using hu
         exact cell_of_blk (blk_new w _) 0 rfl
  | 1 => obtain rfl : Value.string x.2 = u := by simpa using hu
         exact cell_of_blk (blk_new w _) 1 rfl
  | j + 2 => simp at hu
end Go.Proofs.YtmejjphliaiamaaGreatDoor
