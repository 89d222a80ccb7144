import Derived.Test.YtobepddifflpdaaDoorProg
import Derived.Test.YtobepddifflpdaaDoorWd
import Derived.Deep.OwnRows
import Derived.BigQuiet
import Derived.Deep.QuietTactic
set_option linter.unusedVariables false
namespace Go.Proofs.YtobepddifflpdaaDoor
open Go Go.RowKit

theorem bits_or_comm (a b : Int) : bits .or .u32 a b = bits .or .u32 b a := by
  unfold bits
  simp only [BitVec.or_comm]
theorem bits_xor_u32 (a b : Int) : 0 ≤ bits .xor .u32 a b ∧ bits .xor .u32 a b < 4294967296 := by
  show 0 ≤ IntKind.u32.wrap ((BitVec.ofInt 32 a ^^^ BitVec.ofInt 32 b).toNat : Int) ∧ IntKind.u32.wrap ((BitVec.ofInt 32 a ^^^ BitVec.ofInt 32 b).toNat : Int) < 4294967296
  rw [IntKind.wrap_u32]
  omega
theorem bits_or_u32 (a b : Int) : 0 ≤ bits .or .u32 a b ∧ bits .or .u32 a b < 4294967296 := by
  show 0 ≤ IntKind.u32.wrap ((BitVec.ofInt 32 a ||| BitVec.ofInt 32 b).toNat : Int) ∧ IntKind.u32.wrap ((BitVec.ofInt 32 a ||| BitVec.ofInt 32 b).toNat : Int) < 4294967296
  rw [IntKind.wrap_u32]
  omega
theorem bits_and_u32 (a b : Int) : 0 ≤ bits .and .u32 a b ∧ bits .and .u32 a b < 4294967296 := by
  show 0 ≤ IntKind.u32.wrap ((BitVec.ofInt 32 a &&& BitVec.ofInt 32 b).toNat : Int) ∧ IntKind.u32.wrap ((BitVec.ofInt 32 a &&& BitVec.ofInt 32 b).toNat : Int) < 4294967296
  rw [IntKind.wrap_u32]
  omega

/-- a word turned right: by n, where p = 2^n and q = 2^(32-n). -/
def rot (p q x : Int) : Int := bits .or .u32 (x / p) (x * q % 4294967296)
theorem rot_bd (p q x : Int) : 0 ≤ rot p q x ∧ rot p q x < 4294967296 := bits_or_u32 _ _

theorem turned_2 (x : Int) (w : World) (h0 : 0 ≤ x) (h1 : x < 4294967296) :
    Calls Tryd.prog 131 #[.int .u32 x, .int .i64 2] w fun e w' => e = .returned (.int .u32 (rot 4 1073741824 x)) ∧ w' = w := by
  have hs : bits BinOp.and IntKind.u64 (IntKind.u64.wrap (-2)) 31 = 30 := by decide +kernel
  have hr : bits BinOp.or IntKind.u32 (x * 1073741824 % 4294967296) (x / 4) = rot 4 1073741824 x := bits_or_comm _ _
  go_enter Tryd.func131, Tryd.ntmps131
  go_wp2
  go_ret
  exact ⟨rfl, rfl⟩
theorem right_2 (x : Int) (w : World) (h0 : 0 ≤ x) (h1 : x < 4294967296) :
    Calls Tryd.prog 111 #[.int .u32 x, .int .i64 2] w fun e w' => e = .returned (.int .u32 (rot 4 1073741824 x)) ∧ ∃ n, w' = w.drewN n := by
  go_enter Tryd.func111, Tryd.ntmps111
  go_wp2
  go_quiet (fail)
  go_wp2
  go_ret
  exact ⟨rfl, _, rfl⟩

theorem turned_6 (x : Int) (w : World) (h0 : 0 ≤ x) (h1 : x < 4294967296) :
    Calls Tryd.prog 131 #[.int .u32 x, .int .i64 6] w fun e w' => e = .returned (.int .u32 (rot 64 67108864 x)) ∧ w' = w := by
  have hs : bits BinOp.and IntKind.u64 (IntKind.u64.wrap (-6)) 31 = 26 := by decide +kernel
  have hr : bits BinOp.or IntKind.u32 (x * 67108864 % 4294967296) (x / 64) = rot 64 67108864 x := bits_or_comm _ _
  go_enter Tryd.func131, Tryd.ntmps131
  go_wp2
  go_ret
  exact ⟨rfl, rfl⟩
theorem right_6 (x : Int) (w : World) (h0 : 0 ≤ x) (h1 : x < 4294967296) :
    Calls Tryd.prog 111 #[.int .u32 x, .int .i64 6] w fun e w' => e = .returned (.int .u32 (rot 64 67108864 x)) ∧ ∃ n, w' = w.drewN n := by
  go_enter Tryd.func111, Tryd.ntmps111
  go_wp2
  go_quiet (fail)
  go_wp2
  go_ret
  exact ⟨rfl, _, rfl⟩

theorem turned_7 (x : Int) (w : World) (h0 : 0 ≤ x) (h1 : x < 4294967296) :
    Calls Tryd.prog 131 #[.int .u32 x, .int .i64 7] w fun e w' => e = .returned (.int .u32 (rot 128 33554432 x)) ∧ w' = w := by
  have hs : bits BinOp.and IntKind.u64 (IntKind.u64.wrap (-7)) 31 = 25 := by decide +kernel
  have hr : bits BinOp.or IntKind.u32 (x * 33554432 % 4294967296) (x / 128) = rot 128 33554432 x := bits_or_comm _ _
  go_enter Tryd.func131, Tryd.ntmps131
  go_wp2
  go_ret
  exact ⟨rfl, rfl⟩
theorem right_7 (x : Int) (w : World) (h0 : 0 ≤ x) (h1 : x < 4294967296) :
    Calls Tryd.prog 111 #[.int .u32 x, .int .i64 7] w fun e w' => e = .returned (.int .u32 (rot 128 33554432 x)) ∧ ∃ n, w' = w.drewN n := by
  go_enter Tryd.func111, Tryd.ntmps111
  go_wp2
  go_quiet (fail)
  go_wp2
  go_ret
  exact ⟨rfl, _, rfl⟩

theorem turned_11 (x : Int) (w : World) (h0 : 0 ≤ x) (h1 : x < 4294967296) :
    Calls Tryd.prog 131 #[.int .u32 x, .int .i64 11] w fun e w' => e = .returned (.int .u32 (rot 2048 2097152 x)) ∧ w' = w := by
  have hs : bits BinOp.and IntKind.u64 (IntKind.u64.wrap (-11)) 31 = 21 := by decide +kernel
  have hr : bits BinOp.or IntKind.u32 (x * 2097152 % 4294967296) (x / 2048) = rot 2048 2097152 x := bits_or_comm _ _
  go_enter Tryd.func131, Tryd.ntmps131
  go_wp2
  go_ret
  exact ⟨rfl, rfl⟩
theorem right_11 (x : Int) (w : World) (h0 : 0 ≤ x) (h1 : x < 4294967296) :
    Calls Tryd.prog 111 #[.int .u32 x, .int .i64 11] w fun e w' => e = .returned (.int .u32 (rot 2048 2097152 x)) ∧ ∃ n, w' = w.drewN n := by
  go_enter Tryd.func111, Tryd.ntmps111
  go_wp2
  go_quiet (fail)
  go_wp2
  go_ret
  exact ⟨rfl, _, rfl⟩

theorem turned_13 (x : Int) (w : World) (h0 : 0 ≤ x) (h1 : x < 4294967296) :
    Calls Tryd.prog 131 #[.int .u32 x, .int .i64 13] w fun e w' => e = .returned (.int .u32 (rot 8192 524288 x)) ∧ w' = w := by
  have hs : bits BinOp.and IntKind.u64 (IntKind.u64.wrap (-13)) 31 = 19 := by decide +kernel
  have hr : bits BinOp.or IntKind.u32 (x * 524288 % 4294967296) (x / 8192) = rot 8192 524288 x := bits_or_comm _ _
  go_enter Tryd.func131, Tryd.ntmps131
  go_wp2
  go_ret
  exact ⟨rfl, rfl⟩
theorem right_13 (x : Int) (w : World) (h0 : 0 ≤ x) (h1 : x < 4294967296) :
    Calls Tryd.prog 111 #[.int .u32 x, .int .i64 13] w fun e w' => e = .returned (.int .u32 (rot 8192 524288 x)) ∧ ∃ n, w' = w.drewN n := by
  go_enter Tryd.func111, Tryd.ntmps111
  go_wp2
  go_quiet (fail)
  go_wp2
  go_ret
  exact ⟨rfl, _, rfl⟩

theorem turned_17 (x : Int) (w : World) (h0 : 0 ≤ x) (h1 : x < 4294967296) :
    Calls Tryd.prog 131 #[.int .u32 x, .int .i64 17] w fun e w' => e = .returned (.int .u32 (rot 131072 32768 x)) ∧ w' = w := by
  have hs : bits BinOp.and IntKind.u64 (IntKind.u64.wrap (-17)) 31 = 15 := by decide +kernel
  have hr : bits BinOp.or IntKind.u32 (x * 32768 % 4294967296) (x / 131072) = rot 131072 32768 x := bits_or_comm _ _
  go_enter Tryd.func131, Tryd.ntmps131
  go_wp2
  go_ret
  exact ⟨rfl, rfl⟩
theorem right_17 (x : Int) (w : World) (h0 : 0 ≤ x) (h1 : x < 4294967296) :
    Calls Tryd.prog 111 #[.int .u32 x, .int .i64 17] w fun e w' => e = .returned (.int .u32 (rot 131072 32768 x)) ∧ ∃ n, w' = w.drewN n := by
  go_enter Tryd.func111, Tryd.ntmps111
  go_wp2
  go_quiet (fail)
  go_wp2
  go_ret
  exact ⟨rfl, _, rfl⟩

theorem turned_18 (x : Int) (w : World) (h0 : 0 ≤ x) (h1 : x < 4294967296) :
    Calls Tryd.prog 131 #[.int .u32 x, .int .i64 18] w fun e w' => e = .returned (.int .u32 (rot 262144 16384 x)) ∧ w' = w := by
  have hs : bits BinOp.and IntKind.u64 (IntKind.u64.wrap (-18)) 31 = 14 := by decide +kernel
  have hr : bits BinOp.or IntKind.u32 (x * 16384 % 4294967296) (x / 262144) = rot 262144 16384 x := bits_or_comm _ _
  go_enter Tryd.func131, Tryd.ntmps131
  go_wp2
  go_ret
  exact ⟨rfl, rfl⟩
theorem right_18 (x : Int) (w : World) (h0 : 0 ≤ x) (h1 : x < 4294967296) :
    Calls Tryd.prog 111 #[.int .u32 x, .int .i64 18] w fun e w' => e = .returned (.int .u32 (rot 262144 16384 x)) ∧ ∃ n, w' = w.drewN n := by
  go_enter Tryd.func111, Tryd.ntmps111
  go_wp2
  go_quiet (fail)
  go_wp2
  go_ret
  exact ⟨rfl, _, rfl⟩

theorem turned_19 (x : Int) (w : World) (h0 : 0 ≤ x) (h1 : x < 4294967296) :
    Calls Tryd.prog 131 #[.int .u32 x, .int .i64 19] w fun e w' => e = .returned (.int .u32 (rot 524288 8192 x)) ∧ w' = w := by
  have hs : bits BinOp.and IntKind.u64 (IntKind.u64.wrap (-19)) 31 = 13 := by decide +kernel
  have hr : bits BinOp.or IntKind.u32 (x * 8192 % 4294967296) (x / 524288) = rot 524288 8192 x := bits_or_comm _ _
  go_enter Tryd.func131, Tryd.ntmps131
  go_wp2
  go_ret
  exact ⟨rfl, rfl⟩
theorem right_19 (x : Int) (w : World) (h0 : 0 ≤ x) (h1 : x < 4294967296) :
    Calls Tryd.prog 111 #[.int .u32 x, .int .i64 19] w fun e w' => e = .returned (.int .u32 (rot 524288 8192 x)) ∧ ∃ n, w' = w.drewN n := by
  go_enter Tryd.func111, Tryd.ntmps111
  go_wp2
  go_quiet (fail)
  go_wp2
  go_ret
  exact ⟨rfl, _, rfl⟩

theorem turned_22 (x : Int) (w : World) (h0 : 0 ≤ x) (h1 : x < 4294967296) :
    Calls Tryd.prog 131 #[.int .u32 x, .int .i64 22] w fun e w' => e = .returned (.int .u32 (rot 4194304 1024 x)) ∧ w' = w := by
  have hs : bits BinOp.and IntKind.u64 (IntKind.u64.wrap (-22)) 31 = 10 := by decide +kernel
  have hr : bits BinOp.or IntKind.u32 (x * 1024 % 4294967296) (x / 4194304) = rot 4194304 1024 x := bits_or_comm _ _
  go_enter Tryd.func131, Tryd.ntmps131
  go_wp2
  go_ret
  exact ⟨rfl, rfl⟩
theorem right_22 (x : Int) (w : World) (h0 : 0 ≤ x) (h1 : x < 4294967296) :
    Calls Tryd.prog 111 #[.int .u32 x, .int .i64 22] w fun e w' => e = .returned (.int .u32 (rot 4194304 1024 x)) ∧ ∃ n, w' = w.drewN n := by
  go_enter Tryd.func111, Tryd.ntmps111
  go_wp2
  go_quiet (fail)
  go_wp2
  go_ret
  exact ⟨rfl, _, rfl⟩

theorem turned_25 (x : Int) (w : World) (h0 : 0 ≤ x) (h1 : x < 4294967296) :
    Calls Tryd.prog 131 #[.int .u32 x, .int .i64 25] w fun e w' => e = .returned (.int .u32 (rot 33554432 128 x)) ∧ w' = w := by
  have hs : bits BinOp.and IntKind.u64 (IntKind.u64.wrap (-25)) 31 = 7 := by decide +kernel
  have hr : bits BinOp.or IntKind.u32 (x * 128 % 4294967296) (x / 33554432) = rot 33554432 128 x := bits_or_comm _ _
  go_enter Tryd.func131, Tryd.ntmps131
  go_wp2
  go_ret
  exact ⟨rfl, rfl⟩
theorem right_25 (x : Int) (w : World) (h0 : 0 ≤ x) (h1 : x < 4294967296) :
    Calls Tryd.prog 111 #[.int .u32 x, .int .i64 25] w fun e w' => e = .returned (.int .u32 (rot 33554432 128 x)) ∧ ∃ n, w' = w.drewN n := by
  go_enter Tryd.func111, Tryd.ntmps111
  go_wp2
  go_quiet (fail)
  go_wp2
  go_ret
  exact ⟨rfl, _, rfl⟩

end Go.Proofs.YtobepddifflpdaaDoor
