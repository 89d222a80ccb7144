import Derived.Test.YtobepddifflpdaaPkD
set_option linter.unusedVariables false
namespace Go.Proofs.Ytobepddifflpdaa
open Go Go.RowKit Go.Lib

theorem r4_any (b : Nat) (r : RS) (w : World) (hs : r.1.size ≤ 9223372036854775807) (h : Rdr 102 w b r) :
    Calls Try.prog 37 #[.pointer (some ⟨b, 0, none⟩)] w fun e w' => e = .returned (.int .i64 (rNum r 4).1) ∧ RdP 102 b (rNum r 4).2 w w' := by
  have HC := Lib.hid (rn_any b r 4 w (.inl (by decide)) hs h)
  clear h
  go_enter Try.func37, Try.ntmps37
  go_wp2_with fail
  refine HC.out.mono ?_
  rintro e w1 ⟨rfl, h1⟩
  have H1 := Lib.hid h1
  clear h1 HC
  go_wp2_with fail
  go_ret
  exact ⟨rfl, H1.out⟩
end Go.Proofs.Ytobepddifflpdaa
