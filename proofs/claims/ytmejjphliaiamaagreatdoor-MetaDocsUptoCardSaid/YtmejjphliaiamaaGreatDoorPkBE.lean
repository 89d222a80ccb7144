import Derived.Test.YtmejjphliaiamaaGreatDoorPkB
set_option linter.unusedVariables false
namespace Go.Proofs.YtmejjphliaiamaaGreatDoor
open Go Go.RowKit Go.Lib

theorem pw8_any (B b : Nat) (v : Value) (q : WS) (x : Int) (w : World) (hx : -9223372036854775808 ≤ x ∧ x ≤ 9223372036854775807) (hz : q.1.size ≤ 70368744170000) (h : Wr 75 B w b v q) :
    Calls Tryz.prog 36 #[.pointer (some ⟨b, 0, none⟩), .int .i64 x] w fun e w' => e = .returned (.tuple #[]) ∧ WrK 75 B b v w w' (wNum q x 8) := by
  have HC := Lib.hid (num_any B b v q x 8 w (by decide) hx hz h)
  clear h
  go_enter Tryz.func36, Tryz.ntmps36
  go_wp2_with fail
  refine HC.out.mono ?_
  rintro e w1 ⟨rfl, h1⟩
  have H1 := Lib.hid h1
  clear h1
  go_wp2_with fail
  go_end0
  exact ⟨rfl, H1.out⟩
end Go.Proofs.YtmejjphliaiamaaGreatDoor
