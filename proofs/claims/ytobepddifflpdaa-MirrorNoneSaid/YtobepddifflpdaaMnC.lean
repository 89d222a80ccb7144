import Derived.Test.YtobepddifflpdaaMnB
import Derived.Test.YtobepddifflpdaaPkR
set_option linter.unusedVariables false
namespace Go.Proofs.Ytobepddifflpdaa
open Go Go.RowKit Go.Lib

theorem la_back (id : Int) (p : ByteArray) (fr mo : Int) (hid : id ≤ 9223372036854775807) (hfr : fr ≤ 9223372036854775807) (hmo : mo ≤ 9223372036854775807) (h : (laO id p fr mo).2 = 0) :
    ¬ askBad (laO id p fr mo).1 ∧ ask2 (laO id p fr mo).1 = (id, (ask2 (laO id p fr mo).1).2) := by
  unfold laO at h ⊢
  by_cases hp : p.size < 1 ∨ 64 < p.size
  · rw [if_pos hp] at h; cases h
  · rw [if_neg hp] at h ⊢
    obtain ⟨g5, e5⟩ := wOut_ok h
    rw [e5]
    obtain ⟨g4, b5, r5⟩ := wNum_good (q := la4 id p fr) g5
    obtain ⟨g3, b4, r4⟩ := wNum_good (q := la3 id p) g4
    obtain ⟨g2, b3, r3⟩ := rText_good (q := la2 id) g3
    obtain ⟨g1, b2, r2⟩ := wNum_good (q := wNum (⟨#[]⟩, false) 1 1) g2
    obtain ⟨g0, b1, r1⟩ := wNum_good (q := (⟨#[]⟩, false)) g1
    have hs : (la5 id p fr mo).1 = numB 1 1 ++ (numB id 2 ++ (numB p.size 2 ++ (p ++ (numB fr 4 ++ (numB mo 2 ++ ⟨#[]⟩))))) := by
      show (wNum (la4 id p fr) mo 2).1 = _
      rw [r5]
      show (wNum (la3 id p) fr 4).1 ++ _ = _
      rw [r4]
      show (rText (la2 id) p).1 ++ _ ++ _ = _
      rw [r3]
      show (wNum (wNum (⟨#[]⟩, false) 1 1) id 2).1 ++ _ ++ _ ++ _ ++ _ = _
      rw [r2, r1]
      show (⟨#[]⟩ ++ numB 1 1) ++ _ ++ _ ++ _ ++ _ ++ _ = _
      rw [show (⟨#[]⟩ : ByteArray) ++ numB 1 1 = numB 1 1 from ByteArray.empty_append, show (numB mo 2 ++ (⟨#[]⟩ : ByteArray)) = numB mo 2 from ByteArray.append_empty]
      simp only [ByteArray.append_assoc]
    rw [hs]
    generalize hS : numB 1 1 ++ (numB id 2 ++ (numB p.size 2 ++ (p ++ (numB fr 4 ++ (numB mo 2 ++ ⟨#[]⟩))))) = S
    have a1 : ask1 S = (1, (numB id 2 ++ (numB p.size 2 ++ (p ++ (numB fr 4 ++ (numB mo 2 ++ ⟨#[]⟩)))), 0)) := by
      unfold ask1; rw [← hS]; exact rNum_app 1 1 _ b1 (by decide) (by decide)
    have a2 : ask2 S = (id, (numB p.size 2 ++ (p ++ (numB fr 4 ++ (numB mo 2 ++ ⟨#[]⟩))), 0)) := by
      unfold ask2; rw [a1]; exact rNum_app id 2 _ b2 (by decide) hid
    have a3 : ask3 S = (p, (numB fr 4 ++ (numB mo 2 ++ ⟨#[]⟩), 0)) := by
      unfold ask3; rw [a2]; exact rTxt_app p _ 64 (by omega) (by omega)
    have a4 : ask4 S = (fr, (numB mo 2 ++ ⟨#[]⟩, 0)) := by
      unfold ask4; rw [a3]; exact rNum_app fr 4 _ b4 (by decide) hfr
    have a5 : ask5 S = (mo, (⟨#[]⟩, 0)) := by
      unfold ask5; rw [a4]; exact rNum_app mo 2 _ b5 (by decide) hmo
    refine ⟨?_, by rw [a2]⟩
    rintro (h6 | h1 | h3)
    · unfold ask6 at h6
      rw [a5] at h6
      exact h6 (congrArg Prod.snd rEnd_nil)
    · rw [a1] at h1; exact h1 rfl
    · rw [a3] at h3
      exact hp (.inl (by rw [show p.size = 0 from h3]; decide))
theorem la_bad (id : Int) (p : ByteArray) (fr mo : Int) (h : (laO id p fr mo).2 ≠ 0) : (laO id p fr mo).1 = ⟨#[]⟩ := by
  unfold laO at h ⊢
  by_cases hp : p.size < 1 ∨ 64 < p.size
  · rw [if_pos hp]
  · rw [if_neg hp] at h ⊢
    exact (wOut_bad h).1
theorem askBad_nil : askBad ⟨#[]⟩ := by
  refine .inr (.inl ?_)
  have : (ask1 ⟨#[]⟩).1 = 0 := by decide +kernel
  rw [this]
  decide
theorem ask_bounds (s : ByteArray) : (0 ≤ (ask2 s).1 ∧ (ask2 s).1 ≤ 9223372036854775807) ∧ (0 ≤ (ask4 s).1 ∧ (ask4 s).1 ≤ 9223372036854775807) ∧ (0 ≤ (ask5 s).1 ∧ (ask5 s).1 ≤ 9223372036854775807) := by
  have h2 := raw_fits (ask1 s).2 2 (.inl (by decide))
  have h4 := raw_fits (ask3 s).2 4 (.inl (by decide))
  have h5 := raw_fits (ask4 s).2 2 (.inl (by decide))
  have e2 : (ask2 s).1 = beL (rRaw (ask1 s).2 ((2 : Nat) : Int)).1.data.toList := rfl
  have e4 : (ask4 s).1 = beL (rRaw (ask3 s).2 ((4 : Nat) : Int)).1.data.toList := rfl
  have e5 : (ask5 s).1 = beL (rRaw (ask4 s).2 ((2 : Nat) : Int)).1.data.toList := rfl
  rw [e2, e4, e5]
  omega

/-- a nil mirror's answer to the ask in a packet. -/
theorem handle_nil (f t : Int) (s : ByteArray) (w : World) (hs : s.size ≤ 9223372036854775807) :
    Calls Try.prog 15 #[.pointer none, .agg #[.int .i64 f, .int .i64 t, .string s]] w fun e w' => e = .returned (if askBad s then packV 0 0 ⟨#[]⟩ false else packV t f (repO (ask2 s).1 5 0 ⟨#[]⟩).1 true) ∧ Below w.heap.size w w' := by
  by_cases hb : askBad s
  · rw [if_pos hb]
    exact handle_bad none f t s w hs hb
  · rw [if_neg hb]
    have hbd := ask_bounds s
    exact handle_ok none f t s w hs hb (ask2 s).1 5 0 ⟨#[]⟩ (by omega) (by decide) (by decide) (by decide) (fun W _ => answer_nil _ _ _ _ W)

theorem metSrc (w : World) (sb : Nat) : (method 70 44 (.pointer (some ⟨sb, 0, none⟩)) "File").run Try.prog w = .ok (98, .pointer (some ⟨sb, 0, none⟩)) w := by kernel_rfl
end Go.Proofs.Ytobepddifflpdaa
