import Derived.Test.YtmejjphliaiamaaGreatDoorProg
import Derived.Test.YtmejjphliaiamaaGreatDoorWd
import Derived.Deep.OwnRows
import Derived.BigQuiet
import Derived.Deep.QuietTactic
import Derived.StillTailTactics
import Derived.IntWalk
set_option linter.unusedVariables false
namespace Go.Proofs.YtmejjphliaiamaaGreatDoor
open Go Go.RowKit

theorem bits_or_comm (a b : Int) : bits .or .u32 a b = bits .or .u32 b a := by
  unfold bits
  simp only [BitVec.or_comm]
theorem bits_xor_u32 (a b : Int) : 0 ≤ bits .xor .u32 a b ∧ bits .xor .u32 a b < 4294967296 := by
  show 0 ≤ IntKind.u32.wrap ((BitVec.ofInt 32 a ^^^ BitVec.ofInt 32 b).toNat : Int) ∧ IntKind.u32.wrap ((BitVec.ofInt 32 a ^^^ BitVec.ofInt 32 b).toNat : Int) < 4294967296
  rw [IntKind.wrap_u32]
  omega
theorem bits_or_u32 (a b : Int) : 0 ≤ bits .or .u32 a b ∧ bits .or .u32 a b < 4294967296 := by
  show 0 ≤ IntKind.u32.wrap ((BitVec.ofInt 32 a ||| BitVec.ofInt 32 b).toNat : Int) ∧ IntKind.u32.wrap ((BitVec.ofInt 32 a ||| BitVec.ofInt 32 b).toNat : Int) < 4294967296
  rw [IntKind.wrap_u32]
  omega
theorem bits_and_u32 (a b : Int) : 0 ≤ bits .and .u32 a b ∧ bits .and .u32 a b < 4294967296 := by
  show 0 ≤ IntKind.u32.wrap ((BitVec.ofInt 32 a &&& BitVec.ofInt 32 b).toNat : Int) ∧ IntKind.u32.wrap ((BitVec.ofInt 32 a &&& BitVec.ofInt 32 b).toNat : Int) < 4294967296
  rw [IntKind.wrap_u32]
  omega

/-- a word turned right: by n, where p = 2^n and q = 2^(32-n). -/
def rot (p q x : Int) : Int := bits .or .u32 (x / p) (x * q % 4294967296)
theorem rot_bd (p q x : Int) : 0 ≤ rot p q x ∧ rot p q x < 4294967296 := bits_or_u32 _ _

theorem turned_2 (x : Int) (w : World) (h0 : 0 ≤ x) (h1 : x < 4294967296) :
    Calls Tryz.prog 184 #[.int .u32 x, .int .i64 2] w fun e w' => e = .returned (.int .u32 (rot 4 1073741824 x)) ∧ w' = w := by
  have hs : bits BinOp.and IntKind.u64 (IntKind.u64.wrap (-2)) 31 = 30 := by decide +kernel
  have hr : bits BinOp.or IntKind.u32 (x * 1073741824 % 4294967296) (x / 4) = rot 4 1073741824 x := bits_or_comm _ _
  go_enter Tryz.func184, Tryz.ntmps184
  go_wp2
  go_ret
  exact ⟨rfl, rfl⟩
theorem right_2 (x : Int) (w : World) (h0 : 0 ≤ x) (h1 : x < 4294967296) :
    Calls Tryz.prog 158 #[.int .u32 x, .int .i64 2] w fun e w' => e = .returned (.int .u32 (rot 4 1073741824 x)) ∧ ∃ n, w' = w.drewN n := by
  go_enter Tryz.func158, Tryz.ntmps158
  go_wp2
  go_quiet (fail)
  go_wp2
  go_ret
  exact ⟨rfl, _, rfl⟩

theorem turned_6 (x : Int) (w : World) (h0 : 0 ≤ x) (h1 : x < 4294967296) :
    Calls Tryz.prog 184 #[.int .u32 x, .int .i64 6] w fun e w' => e = .returned (.int .u32 (rot 64 67108864 x)) ∧ w' = w := by
  have hs : bits BinOp.and IntKind.u64 (IntKind.u64.wrap (-6)) 31 = 26 := by decide +kernel
  have hr : bits BinOp.or IntKind.u32 (x * 67108864 % 4294967296) (x / 64) = rot 64 67108864 x := bits_or_comm _ _
  go_enter Tryz.func184, Tryz.ntmps184
  go_wp2
  go_ret
  exact ⟨rfl, rfl⟩
theorem right_6 (x : Int) (w : World) (h0 : 0 ≤ x) (h1 : x < 4294967296) :
    Calls Tryz.prog 158 #[.int .u32 x, .int .i64 6] w fun e w' => e = .returned (.int .u32 (rot 64 67108864 x)) ∧ ∃ n, w' = w.drewN n := by
  go_enter Tryz.func158, Tryz.ntmps158
  go_wp2
  go_quiet (fail)
  go_wp2
  go_ret
  exact ⟨rfl, _, rfl⟩

theorem turned_7 (x : Int) (w : World) (h0 : 0 ≤ x) (h1 : x < 4294967296) :
    Calls Tryz.prog 184 #[.int .u32 x, .int .i64 7] w fun e w' => e = .returned (.int .u32 (rot 128 33554432 x)) ∧ w' = w := by
  have hs : bits BinOp.and IntKind.u64 (IntKind.u64.wrap (-7)) 31 = 25 := by decide +kernel
  have hr : bits BinOp.or IntKind.u32 (x * 33554432 % 4294967296) (x / 128) = rot 128 33554432 x := bits_or_comm _ _
  go_enter Tryz.func184, Tryz.ntmps184
  go_wp2
  go_ret
  exact ⟨rfl, rfl⟩
theorem right_7 (x : Int) (w : World) (h0 : 0 ≤ x) (h1 : x < 4294967296) :
    Calls Tryz.prog 158 #[.int .u32 x, .int .i64 7] w fun e w' => e = .returned (.int .u32 (rot 128 33554432 x)) ∧ ∃ n, w' = w.drewN n := by
  go_enter Tryz.func158, Tryz.ntmps158
  go_wp2
  go_quiet (fail)
  go_wp2
  go_ret
  exact ⟨rfl, _, rfl⟩

theorem turned_11 (x : Int) (w : World) (h0 : 0 ≤ x) (h1 : x < 4294967296) :
    Calls Tryz.prog 184 #[.int .u32 x, .int .i64 11] w fun e w' => e = .returned (.int .u32 (rot 2048 2097152 x)) ∧ w' = w := by
  have hs : bits BinOp.and IntKind.u64 (IntKind.u64.wrap (-11)) 31 = 21 := by decide +kernel
  have hr : bits BinOp.or IntKind.u32 (x * 2097152 % 4294967296) (x / 2048) = rot 2048 2097152 x := bits_or_comm _ _
  go_enter Tryz.func184, Tryz.ntmps184
  go_wp2
  go_ret
  exact ⟨rfl, rfl⟩
theorem right_11 (x : Int) (w : World) (h0 : 0 ≤ x) (h1 : x < 4294967296) :
    Calls Tryz.prog 158 #[.int .u32 x, .int .i64 11] w fun e w' => e = .returned (.int .u32 (rot 2048 2097152 x)) ∧ ∃ n, w' = w.drewN n := by
  go_enter Tryz.func158, Tryz.ntmps158
  go_wp2
  go_quiet (fail)
  go_wp2
  go_ret
  exact ⟨rfl, _, rfl⟩

theorem turned_13 (x : Int) (w : World) (h0 : 0 ≤ x) (h1 : x < 4294967296) :
    Calls Tryz.prog 184 #[.int .u32 x, .int .i64 13] w fun e w' => e = .returned (.int .u32 (rot 8192 524288 x)) ∧ w' = w := by
  have hs : bits BinOp.and IntKind.u64 (IntKind.u64.wrap (-13)) 31 = 19 := by decide +kernel
  have hr : bits BinOp.or IntKind.u32 (x * 524288 % 4294967296) (x / 8192) = rot 8192 524288 x := bits_or_comm _ _
  go_enter Tryz.func184, Tryz.ntmps184
  go_wp2
  go_ret
  exact ⟨rfl, rfl⟩
theorem right_13 (x : Int) (w : World) (h0 : 0 ≤ x) (h1 : x < 4294967296) :
    Calls Tryz.prog 158 #[.int .u32 x, .int .i64 13] w fun e w' => e = .returned (.int .u32 (rot 8192 524288 x)) ∧ ∃ n, w' = w.drewN n := by
  go_enter Tryz.func158, Tryz.ntmps158
  go_wp2
  go_quiet (fail)
  go_wp2
  go_ret
  exact ⟨rfl, _, rfl⟩

theorem turned_17 (x : Int) (w : World) (h0 : 0 ≤ x) (h1 : x < 4294967296) :
    Calls Tryz.prog 184 #[.int .u32 x, .int .i64 17] w fun e w' => e = .returned (.int .u32 (rot 131072 32768 x)) ∧ w' = w := by
  have hs : bits BinOp.and IntKind.u64 (IntKind.u64.wrap (-17)) 31 = 15 := by decide +kernel
  have hr : bits BinOp.or IntKind.u32 (x * 32768 % 4294967296) (x / 131072) = rot 131072 32768 x := bits_or_comm _ _
  go_enter Tryz.func184, Tryz.ntmps184
  go_wp2
  go_ret
  exact ⟨rfl, rfl⟩
theorem right_17 (x : Int) (w : World) (h0 : 0 ≤ x) (h1 : x < 4294967296) :
    Calls Tryz.prog 158 #[.int .u32 x, .int .i64 17] w fun e w' => e = .returned (.int .u32 (rot 131072 32768 x)) ∧ ∃ n, w' = w.drewN n := by
  go_enter Tryz.func158, Tryz.ntmps158
  go_wp2
  go_quiet (fail)
  go_wp2
  go_ret
  exact ⟨rfl, _, rfl⟩

theorem turned_18 (x : Int) (w : World) (h0 : 0 ≤ x) (h1 : x < 4294967296) :
    Calls Tryz.prog 184 #[.int .u32 x, .int .i64 18] w fun e w' => e = .returned (.int .u32 (rot 262144 16384 x)) ∧ w' = w := by
  have hs : bits BinOp.and IntKind.u64 (IntKind.u64.wrap (-18)) 31 = 14 := by decide +kernel
  have hr : bits BinOp.or IntKind.u32 (x * 16384 % 4294967296) (x / 262144) = rot 262144 16384 x := bits_or_comm _ _
  go_enter Tryz.func184, Tryz.ntmps184
  go_wp2
  go_ret
  exact ⟨rfl, rfl⟩
theorem right_18 (x : Int) (w : World) (h0 : 0 ≤ x) (h1 : x < 4294967296) :
    Calls Tryz.prog 158 #[.int .u32 x, .int .i64 18] w fun e w' => e = .returned (.int .u32 (rot 262144 16384 x)) ∧ ∃ n, w' = w.drewN n := by
  go_enter Tryz.func158, Tryz.ntmps158
  go_wp2
  go_quiet (fail)
  go_wp2
  go_ret
  exact ⟨rfl, _, rfl⟩

theorem turned_19 (x : Int) (w : World) (h0 : 0 ≤ x) (h1 : x < 4294967296) :
    Calls Tryz.prog 184 #[.int .u32 x, .int .i64 19] w fun e w' => e = .returned (.int .u32 (rot 524288 8192 x)) ∧ w' = w := by
  have hs : bits BinOp.and IntKind.u64 (IntKind.u64.wrap (-19)) 31 = 13 := by decide +kernel
  have hr : bits BinOp.or IntKind.u32 (x * 8192 % 4294967296) (x / 524288) = rot 524288 8192 x := bits_or_comm _ _
  go_enter Tryz.func184, Tryz.ntmps184
  go_wp2
  go_ret
  exact ⟨rfl, rfl⟩
theorem right_19 (x : Int) (w : World) (h0 : 0 ≤ x) (h1 : x < 4294967296) :
    Calls Tryz.prog 158 #[.int .u32 x, .int .i64 19] w fun e w' => e = .returned (.int .u32 (rot 524288 8192 x)) ∧ ∃ n, w' = w.drewN n := by
  go_enter Tryz.func158, Tryz.ntmps158
  go_wp2
  go_quiet (fail)
  go_wp2
  go_ret
  exact ⟨rfl, _, rfl⟩

theorem turned_22 (x : Int) (w : World) (h0 : 0 ≤ x) (h1 : x < 4294967296) :
    Calls Tryz.prog 184 #[.int .u32 x, .int .i64 22] w fun e w' => e = .returned (.int .u32 (rot 4194304 1024 x)) ∧ w' = w := by
  have hs : bits BinOp.and IntKind.u64 (IntKind.u64.wrap (-22)) 31 = 10 := by decide +kernel
  have hr : bits BinOp.or IntKind.u32 (x * 1024 % 4294967296) (x / 4194304) = rot 4194304 1024 x := bits_or_comm _ _
  go_enter Tryz.func184, Tryz.ntmps184
  go_wp2
  go_ret
  exact ⟨rfl, rfl⟩
theorem right_22 (x : Int) (w : World) (h0 : 0 ≤ x) (h1 : x < 4294967296) :
    Calls Tryz.prog 158 #[.int .u32 x, .int .i64 22] w fun e w' => e = .returned (.int .u32 (rot 4194304 1024 x)) ∧ ∃ n, w' = w.drewN n := by
  go_enter Tryz.func158, Tryz.ntmps158
  go_wp2
  go_quiet (fail)
  go_wp2
  go_ret
  exact ⟨rfl, _, rfl⟩

theorem turned_25 (x : Int) (w : World) (h0 : 0 ≤ x) (h1 : x < 4294967296) :
    Calls Tryz.prog 184 #[.int .u32 x, .int .i64 25] w fun e w' => e = .returned (.int .u32 (rot 33554432 128 x)) ∧ w' = w := by
  have hs : bits BinOp.and IntKind.u64 (IntKind.u64.wrap (-25)) 31 = 7 := by decide +kernel
  have hr : bits BinOp.or IntKind.u32 (x * 128 % 4294967296) (x / 33554432) = rot 33554432 128 x := bits_or_comm _ _
  go_enter Tryz.func184, Tryz.ntmps184
  go_wp2
  go_ret
  exact ⟨rfl, rfl⟩
theorem right_25 (x : Int) (w : World) (h0 : 0 ≤ x) (h1 : x < 4294967296) :
    Calls Tryz.prog 158 #[.int .u32 x, .int .i64 25] w fun e w' => e = .returned (.int .u32 (rot 33554432 128 x)) ∧ ∃ n, w' = w.drewN n := by
  go_enter Tryz.func158, Tryz.ntmps158
  go_wp2
  go_quiet (fail)
  go_wp2
  go_ret
  exact ⟨rfl, _, rfl⟩

/-- a function turned at one place. -/
def upd (f : Nat → Int) (i : Nat) (v : Int) : Nat → Int := fun j => if j = i then v else f j
def u32V (f : Nat → Int) : Nat → Value := fun j => .int .u32 (f j)
theorem u32V_upd (f : Nat → Int) (i : Nat) (v : Int) : (fun j => if j = i then Value.int .u32 v else u32V f j) = u32V (upd f i v) := by
  funext j
  unfold u32V upd
  split <;> rfl

/-- the word number t of 64 bytes. -/
def mw (M : Nat → Int) (t : Nat) : Int := bits .or .u32 (bits .or .u32 (bits .or .u32 (M (4 * t) * 16777216) (M (4 * t + 1) * 65536)) (M (4 * t + 2) * 256)) (M (4 * t + 3))
def arrA (M : Nat → Int) : Nat → Nat → Int
  | 0 => fun _ => 0
  | k + 1 => upd (arrA M k) k (mw M k)

def wnext (f : Nat → Int) (m : Nat) : Int :=
  (f m + bits .xor .u32 (bits .xor .u32 (rot 128 33554432 (f (m + 1))) (rot 262144 16384 (f (m + 1)))) (f (m + 1) / 8) + f (m + 9) +
    bits .xor .u32 (bits .xor .u32 (rot 131072 32768 (f (m + 14))) (rot 524288 8192 (f (m + 14)))) (f (m + 14) / 1024)) % 4294967296
def arrB (M : Nat → Int) : Nat → Nat → Int
  | 0 => arrA M 16
  | m + 1 => upd (arrB M m) (16 + m) (wnext (arrB M m) m)

theorem arrA_bd (M : Nat → Int) : ∀ k j, 0 ≤ arrA M k j ∧ arrA M k j < 4294967296
  | 0, _ => by unfold arrA; omega
  | k + 1, j => by
    unfold arrA upd
    split
    · exact bits_or_u32 _ _
    · exact arrA_bd M k j
theorem arrB_bd (M : Nat → Int) : ∀ m j, 0 ≤ arrB M m j ∧ arrB M m j < 4294967296
  | 0, j => arrA_bd M 16 j
  | m + 1, j => by
    unfold arrB upd
    split
    · unfold wnext; omega
    · exact arrB_bd M m j

def BlkRel1 (M : Nat → Int) (wb : Nat) (w : World) (i : Value) (wr : World) : Prop :=
  ∃ k : Nat, k ≤ 16 ∧ i = .int .i64 k ∧ wr.rowIs wb 152 64 (u32V (arrA M k)) ∧ Below wb w wr

def BlkRel2 (M : Nat → Int) (wb : Nat) (w : World) (i : Value) (wr : World) : Prop :=
  ∃ m : Nat, m ≤ 48 ∧ i = .int .i64 (16 + m) ∧ wr.rowIs wb 152 64 (u32V (arrB M m)) ∧ Below wb w wr

theorem rel1_step {M : Nat → Int} {w wr : World} {wb : Nat} {k : Nat} (hk : k < 16) (hR : wr.rowIs wb 152 64 (u32V (arrA M k))) (hB : Below wb w wr) :
    BlkRel1 M wb w (.int .i64 (↑k + 1)) (wr.setCell ⟨wb, k, none⟩ (.int .u32 (mw M k))).drew ∧ 16 - (intOf (.int .i64 (↑k + 1))).toNat < 16 - (intOf (.int .i64 ↑k)).toNat := by
  refine ⟨⟨k + 1, by omega, rfl, ?_, (hB.setCell (Nat.le_refl _) _).drew⟩, by show 16 - ((k : Int) + 1).toNat < 16 - (k : Int).toNat; omega⟩
  have h := hR.set k (.int .u32 (mw M k))
  rw [u32V_upd] at h
  exact h

theorem rel2_step {M : Nat → Int} {w wr : World} {wb : Nat} {m : Nat} (hm : m < 48) (hR : wr.rowIs wb 152 64 (u32V (arrB M m))) (hB : Below wb w wr) :
    BlkRel2 M wb w (.int .i64 (16 + ↑m + 1)) (wr.setCell ⟨wb, 16 + m, none⟩ (.int .u32 (wnext (arrB M m) m))).drew ∧ 48 - (intOf (.int .i64 (16 + ↑m + 1)) - 16).toNat < 48 - (intOf (.int .i64 (16 + ↑m)) - 16).toNat := by
  refine ⟨⟨m + 1, by omega, by congr 1, ?_, (hB.setCell (Nat.le_refl _) _).drew⟩, by show 48 - (16 + (m : Int) + 1 - 16).toNat < 48 - (16 + (m : Int) - 16).toNat; omega⟩
  have h := hR.set (16 + m) (.int .u32 (wnext (arrB M m) m))
  rw [u32V_upd] at h
  exact h

theorem zeros_row (w : World) (t : TypeId) (c : Array Value) (h : c = madeCells #[.int .u32 0] 64) : (w.alloc (.cells c t)).rowIs w.heap.size t 64 (u32V (fun _ => 0)) := by
  subst h
  exact World.rowIs_made w (.int .u32 0) 64 t

/-- the eight words of a round. -/
structure R8 where
  a : Int
  b : Int
  c : Int
  d : Int
  e : Int
  f : Int
  g : Int
  h : Int
def rndP (K W : Nat → Int) (r : R8) (t : Nat) : Int :=
  ((((r.h + bits .xor .u32 (bits .xor .u32 (rot 64 67108864 r.e) (rot 2048 2097152 r.e)) (rot 33554432 128 r.e)) % 4294967296 +
    bits .xor .u32 (bits .and .u32 r.e r.f) (bits .and .u32 (bits .xor .u32 IntKind.u32.max r.e) r.g)) % 4294967296 + K t) % 4294967296 + W t) % 4294967296
def rndQ (r : R8) : Int :=
  (bits .xor .u32 (bits .xor .u32 (rot 4 1073741824 r.a) (rot 8192 524288 r.a)) (rot 4194304 1024 r.a) +
    bits .xor .u32 (bits .xor .u32 (bits .and .u32 r.a r.b) (bits .and .u32 r.a r.c)) (bits .and .u32 r.b r.c)) % 4294967296
def rnd (K W : Nat → Int) (r : R8) (t : Nat) : R8 :=
  ⟨(rndP K W r t + rndQ r) % 4294967296, r.a, r.b, r.c, (r.d + rndP K W r t) % 4294967296, r.e, r.f, r.g⟩
def rnds (K W : Nat → Int) (r : R8) : Nat → R8
  | 0 => r
  | t + 1 => rnd K W (rnds K W r t) t
structure R8.Bd (r : R8) : Prop where
  a : 0 ≤ r.a ∧ r.a < 4294967296
  b : 0 ≤ r.b ∧ r.b < 4294967296
  c : 0 ≤ r.c ∧ r.c < 4294967296
  d : 0 ≤ r.d ∧ r.d < 4294967296
  e : 0 ≤ r.e ∧ r.e < 4294967296
  f : 0 ≤ r.f ∧ r.f < 4294967296
  g : 0 ≤ r.g ∧ r.g < 4294967296
  h : 0 ≤ r.h ∧ r.h < 4294967296
theorem r8_bd {S : Nat → Int} (h : ∀ j, 0 ≤ S j ∧ S j < 4294967296) : R8.Bd ⟨S 0, S 1, S 2, S 3, S 4, S 5, S 6, S 7⟩ := ⟨h 0, h 1, h 2, h 3, h 4, h 5, h 6, h 7⟩
theorem rnd_bd (K W : Nat → Int) {r : R8} (h : r.Bd) (t : Nat) : (rnd K W r t).Bd :=
  ⟨by show 0 ≤ _ % _ ∧ _ % _ < _; omega, h.a, h.b, h.c, by show 0 ≤ _ % _ ∧ _ % _ < _; omega, h.e, h.f, h.g⟩
theorem rnds_bd (K W : Nat → Int) (r : R8) (h : r.Bd) : ∀ t, (rnds K W r t).Bd
  | 0 => h
  | t + 1 => rnd_bd K W (rnds_bd K W r h t) t
def BlkRel3 (K W : Nat → Int) (r : R8) (B : Nat) (w : World) (a b c d e f g h i : Value) (wr : World) : Prop :=
  ∃ t : Nat, t ≤ 64 ∧ i = .int .i64 t ∧ a = .int .u32 (rnds K W r t).a ∧ b = .int .u32 (rnds K W r t).b ∧ c = .int .u32 (rnds K W r t).c ∧ d = .int .u32 (rnds K W r t).d ∧
    e = .int .u32 (rnds K W r t).e ∧ f = .int .u32 (rnds K W r t).f ∧ g = .int .u32 (rnds K W r t).g ∧ h = .int .u32 (rnds K W r t).h ∧ wr.rowIs B 152 64 (u32V W) ∧ Below B w wr

theorem rel3_step {K W : Nat → Int} {r R : R8} {B : Nat} {w wr : World} {t : Nat} (ht : t < 64) (hr : rnds K W r t = R) (hR : wr.rowIs B 152 64 (u32V W)) (hB : Below B w wr) :
    BlkRel3 K W r B w (.int .u32 (rnd K W R t).a) (.int .u32 (rnd K W R t).b) (.int .u32 (rnd K W R t).c) (.int .u32 (rnd K W R t).d) (.int .u32 (rnd K W R t).e) (.int .u32 (rnd K W R t).f) (.int .u32 (rnd K W R t).g) (.int .u32 (rnd K W R t).h)
      (.int .i64 (↑t + 1)) wr.drew ∧ 64 - (intOf (.int .i64 (↑t + 1))).toNat < 64 - (intOf (.int .i64 ↑t)).toNat := by
  subst hr
  exact ⟨⟨t + 1, by omega, rfl, rfl, rfl, rfl, rfl, rfl, rfl, rfl, rfl, hR, hB.drew⟩, by show 64 - ((t : Int) + 1).toNat < 64 - (t : Int).toNat; omega⟩

def R8.get (r : R8) : Nat → Int
  | 0 => r.a
  | 1 => r.b
  | 2 => r.c
  | 3 => r.d
  | 4 => r.e
  | 5 => r.f
  | 6 => r.g
  | _ => r.h
theorem R8.Bd.get {r : R8} (h : r.Bd) (k : Nat) : 0 ≤ r.get k ∧ r.get k < 4294967296 := by
  unfold R8.get
  split
  · exact h.a
  · exact h.b
  · exact h.c
  · exact h.d
  · exact h.e
  · exact h.f
  · exact h.g
  · exact h.h
theorem index8_0 (a b c d e f g h : Int) (W : World) : (Instr.index 151 (.agg #[.int .u32 a, .int .u32 b, .int .u32 c, .int .u32 d, .int .u32 e, .int .u32 f, .int .u32 g, .int .u32 h]) (.int .i64 0)).run Tryz.prog W = .ok (.int .u32 a) W := by kernel_rfl
theorem index8_1 (a b c d e f g h : Int) (W : World) : (Instr.index 151 (.agg #[.int .u32 a, .int .u32 b, .int .u32 c, .int .u32 d, .int .u32 e, .int .u32 f, .int .u32 g, .int .u32 h]) (.int .i64 1)).run Tryz.prog W = .ok (.int .u32 b) W := by kernel_rfl
theorem index8_2 (a b c d e f g h : Int) (W : World) : (Instr.index 151 (.agg #[.int .u32 a, .int .u32 b, .int .u32 c, .int .u32 d, .int .u32 e, .int .u32 f, .int .u32 g, .int .u32 h]) (.int .i64 2)).run Tryz.prog W = .ok (.int .u32 c) W := by kernel_rfl
theorem index8_3 (a b c d e f g h : Int) (W : World) : (Instr.index 151 (.agg #[.int .u32 a, .int .u32 b, .int .u32 c, .int .u32 d, .int .u32 e, .int .u32 f, .int .u32 g, .int .u32 h]) (.int .i64 3)).run Tryz.prog W = .ok (.int .u32 d) W := by kernel_rfl
theorem index8_4 (a b c d e f g h : Int) (W : World) : (Instr.index 151 (.agg #[.int .u32 a, .int .u32 b, .int .u32 c, .int .u32 d, .int .u32 e, .int .u32 f, .int .u32 g, .int .u32 h]) (.int .i64 4)).run Tryz.prog W = .ok (.int .u32 e) W := by kernel_rfl
theorem index8_5 (a b c d e f g h : Int) (W : World) : (Instr.index 151 (.agg #[.int .u32 a, .int .u32 b, .int .u32 c, .int .u32 d, .int .u32 e, .int .u32 f, .int .u32 g, .int .u32 h]) (.int .i64 5)).run Tryz.prog W = .ok (.int .u32 f) W := by kernel_rfl
theorem index8_6 (a b c d e f g h : Int) (W : World) : (Instr.index 151 (.agg #[.int .u32 a, .int .u32 b, .int .u32 c, .int .u32 d, .int .u32 e, .int .u32 f, .int .u32 g, .int .u32 h]) (.int .i64 6)).run Tryz.prog W = .ok (.int .u32 g) W := by kernel_rfl
theorem index8_7 (a b c d e f g h : Int) (W : World) : (Instr.index 151 (.agg #[.int .u32 a, .int .u32 b, .int .u32 c, .int .u32 d, .int .u32 e, .int .u32 f, .int .u32 g, .int .u32 h]) (.int .i64 7)).run Tryz.prog W = .ok (.int .u32 h) W := by kernel_rfl
theorem index8 (a b c d e f g h : Int) (k : Nat) (hk : k < 8) (W : World) : (Instr.index 151 (.agg #[.int .u32 a, .int .u32 b, .int .u32 c, .int .u32 d, .int .u32 e, .int .u32 f, .int .u32 g, .int .u32 h]) (.int .i64 (k : Int))).run Tryz.prog W =
    .ok (.int .u32 ((R8.mk a b c d e f g h).get k)) W := by
  have h8 : k = 0 ∨ k = 1 ∨ k = 2 ∨ k = 3 ∨ k = 4 ∨ k = 5 ∨ k = 6 ∨ k = 7 := by omega
  rcases h8 with rfl | rfl | rfl | rfl | rfl | rfl | rfl | rfl
  · exact index8_0 a b c d e f g h W
  · exact index8_1 a b c d e f g h W
  · exact index8_2 a b c d e f g h W
  · exact index8_3 a b c d e f g h W
  · exact index8_4 a b c d e f g h W
  · exact index8_5 a b c d e f g h W
  · exact index8_6 a b c d e f g h W
  · exact index8_7 a b c d e f g h W

def arrS (S : Nat → Int) (r : R8) : Nat → Nat → Int
  | 0 => S
  | k + 1 => upd (arrS S r k) k ((arrS S r k k + r.get k) % 4294967296)
theorem arrS_bd {S : Nat → Int} (h : ∀ j, 0 ≤ S j ∧ S j < 4294967296) (r : R8) : ∀ k j, 0 ≤ arrS S r k j ∧ arrS S r k j < 4294967296
  | 0, j => h j
  | k + 1, j => by
    unfold arrS upd
    split
    · omega
    · exact arrS_bd h r k j
/-- what one block makes of the eight words. -/
def comp (K S M : Nat → Int) : Nat → Int := arrS S (rnds K (arrB M 48) ⟨S 0, S 1, S 2, S 3, S 4, S 5, S 6, S 7⟩ 64) 8
theorem comp_bd (K : Nat → Int) {S : Nat → Int} (h : ∀ j, 0 ≤ S j ∧ S j < 4294967296) (M : Nat → Int) (j : Nat) : 0 ≤ comp K S M j ∧ comp K S M j < 4294967296 := arrS_bd h _ _ j

def BlkRel4 (S : Nat → Int) (r : R8) (sb : Nat) (ts : TypeId) (w : World) (i : Value) (wr : World) : Prop :=
  ∃ k : Nat, k ≤ 8 ∧ i = .int .i64 k ∧ wr.rowIs sb ts 8 (u32V (arrS S r k)) ∧ Kp (fun b => b = sb) w wr
theorem rel4_step {S : Nat → Int} {r : R8} {sb : Nat} {ts : TypeId} {w wr : World} {k : Nat} (hk : k < 8) (hR : wr.rowIs sb ts 8 (u32V (arrS S r k))) (hB : Kp (fun b => b = sb) w wr) :
    BlkRel4 S r sb ts w (.int .i64 (↑k + 1)) (wr.setCell ⟨sb, k, none⟩ (.int .u32 ((arrS S r k k + r.get k) % 4294967296))).drew ∧ 8 - (intOf (.int .i64 (↑k + 1))).toNat < 8 - (intOf (.int .i64 ↑k)).toNat := by
  refine ⟨⟨k + 1, by omega, rfl, ?_, (hB.setCell (.inl rfl) _).drew⟩, by show 8 - ((k : Int) + 1).toNat < 8 - (k : Int).toNat; omega⟩
  have h := hR.set k (.int .u32 ((arrS S r k k + r.get k) % 4294967296))
  rw [u32V_upd] at h
  exact h

def BlkPost (sb : Nat) (ts : TypeId) (F : Nat → Int) (w : World) (e : Ending) (w' : World) : Prop :=
  e = .returned (.tuple #[]) ∧ w'.rowIs sb ts 8 (u32V F) ∧ Kp (fun b => b = sb) w w'

set_option maxRecDepth 100000 in
set_option maxHeartbeats 2000000 in
theorem block_any (sb kb pb po cap : Nat) (ts tk : TypeId) (S K M : Nat → Int) (w : World) (hS : w.rowIs sb ts 8 (u32V S)) (hK : w.rowIs kb tk 64 (u32V K))
    (hM : ∀ j, j < 64 → w.cell? ⟨pb, po + j, none⟩ = some (.int .u8 (M j))) (hMb : ∀ j, 0 ≤ M j ∧ M j < 256) (hSb : ∀ j, 0 ≤ S j ∧ S j < 4294967296) (hcap : 64 ≤ cap) :
    Calls Tryz.prog 156 #[.pointer (some ⟨sb, 0, none⟩), .pointer (some ⟨kb, 0, none⟩), .slice (some ⟨pb, po, none⟩) 64 cap] w (BlkPost sb ts (comp K S M) w) := by
  have Hs := Lib.hid hS
  have Hk := Lib.hid hK
  have HM := Lib.hid hM
  have HMb := Lib.hid hMb
  have HSb := Lib.hid hSb
  clear hS hK hM hMb hSb
  go_enter Tryz.func156, Tryz.ntmps156
  go_wp2_with fail
  go_loopw [24] (fun i wr => BlkRel1 M w.heap.size w i wr) (fun i _ => 16 - (intOf i).toNat)
  case atStart => exact ⟨0, Nat.zero_le _, rfl, zeros_row w _ _ (by kernel_rfl), (Below.refl _ _).alloc (Nat.le_refl _) _⟩
  case round =>
    obtain ⟨k, hk, rfl, hR, hB⟩ := hrel
    have HR := Lib.hid hR
    have HB := Lib.hid hB
    clear hR hB
    by_cases hlt : k < 16
    · have w1 : IntKind.i64.wrap (4 * (k : Int)) = 4 * (k : Int) := IntWalk.i64_in _ (by omega)
      have w2 : IntKind.i64.wrap (4 * (k : Int) + 1) = 4 * (k : Int) + 1 := IntWalk.i64_in _ (by omega)
      have w3 : IntKind.i64.wrap (4 * (k : Int) + 2) = 4 * (k : Int) + 2 := IntWalk.i64_in _ (by omega)
      have w4 : IntKind.i64.wrap (4 * (k : Int) + 3) = 4 * (k : Int) + 3 := IntWalk.i64_in _ (by omega)
      have n1 : (4 * (k : Int)).toNat = 4 * k := by omega
      have n2 : (4 * (k : Int) + 1).toNat = 4 * k + 1 := by omega
      have n3 : (4 * (k : Int) + 2).toNat = 4 * k + 2 := by omega
      have n4 : (4 * (k : Int) + 3).toNat = 4 * k + 3 := by omega
      have cM : ∀ j, j < 64 → wr.drew.cell? ⟨pb, po + j, none⟩ = some (.int .u8 (M j)) := fun j hj => (HB.out.cell (p := ⟨pb, po + j, none⟩) (cell_lt (HM.out j hj))).trans (HM.out j hj)
      have c0 := cM (4 * k) (by omega)
      have c1 := cM (4 * k + 1) (by omega)
      have c2 := cM (4 * k + 2) (by omega)
      have c3 := cM (4 * k + 3) (by omega)
      obtain ⟨b0, b0'⟩ := HMb.out (4 * k)
      obtain ⟨b1, b1'⟩ := HMb.out (4 * k + 1)
      obtain ⟨b2, b2'⟩ := HMb.out (4 * k + 2)
      obtain ⟨b3, b3'⟩ := HMb.out (4 * k + 3)
      have r0 : 0 ≤ 4 * (k : Int) := by omega
      have r1 : 4 * (k : Int) < 64 := by omega
      have r2 : 0 ≤ 4 * (k : Int) + 1 := by omega
      have r3 : 4 * (k : Int) + 1 < 64 := by omega
      have r4 : 0 ≤ 4 * (k : Int) + 2 := by omega
      have r5 : 4 * (k : Int) + 2 < 64 := by omega
      have r6 : 0 ≤ 4 * (k : Int) + 3 := by omega
      have rk : (k : Int) < 64 := by omega
      have r7 : 4 * (k : Int) + 3 < 64 := by omega
      clear cM
      go_wp2_with fail
      refine wp_region_still_tail 35 (by kernel_rfl) (by kernel_rfl) ?_
      simp only [List.take_succ_cons, List.take_zero, List.drop_succ_cons, List.drop_zero]
      show wpStill _ _ (World.drew _) _ _ _
      repeat still_step
      refine wpStill_nil ?_
      show wpList _ _ _ _ _ (World.drew _)
      have cw := HR.out.cell (i := k) (by omega)
      have fw := HR.out.frozen k
      go_wp2_with fail
      exact rel1_step hlt HR.out HB.out
    · have hk16 : k = 16 := by omega
      rw [hk16] at HR
      have hkc : (k : Int) = 16 := by omega
      clear hk16
      go_wp2_with fail
      go_loopw [8] (fun i wr => BlkRel2 M w.heap.size w i wr) (fun i _ => 48 - (intOf i - 16).toNat)
      case atStart => exact ⟨0, Nat.zero_le _, rfl, HR.out, HB.out⟩
      case round =>
        clear HR HB hk hlt hkc
        obtain ⟨m, hm, rfl, hR, hB⟩ := hrel
        have HR := Lib.hid hR
        have HB := Lib.hid hB
        clear hR hB
        by_cases hlt : m < 48
        · have q1 : (16 + (m : Int) - 15).toNat = m + 1 := by omega
          have q2 : (16 + (m : Int) - 2).toNat = m + 14 := by omega
          have w1 : IntKind.i64.wrap (16 + (m : Int) - 15) = 16 + (m : Int) - 15 := IntWalk.i64_in _ (by omega)
          have w2 : IntKind.i64.wrap (16 + (m : Int) - 2) = 16 + (m : Int) - 2 := IntWalk.i64_in _ (by omega)
          have cw1 : wr.cell? ⟨w.heap.size, m + 1, none⟩ = some (.int .u32 (arrB M m (m + 1))) := HR.out.cell (by omega)
          have cw2 : wr.cell? ⟨w.heap.size, m + 14, none⟩ = some (.int .u32 (arrB M m (m + 14))) := HR.out.cell (by omega)
          have r1 : 0 ≤ 16 + (m : Int) - 15 := by omega
          have r2 : 16 + (m : Int) - 15 < 64 := by omega
          have r3 : 0 ≤ 16 + (m : Int) - 2 := by omega
          have r4 : 16 + (m : Int) - 2 < 64 := by omega
          go_wp2_with fail
          go_quiet (fail)
          go_wp2_with fail
          have HR2 : Hid ((wr.drewN nq).rowIs w.heap.size 152 64 (u32V (arrB M m))) := HR.out
          have HB2 : Hid (Below w.heap.size w (wr.drewN nq)) := ⟨HB.out.os, HB.out.tape, HB.out.output, HB.out.size, HB.out.block⟩
          clear HR HB q1 q2 w1 w2 cw1 cw2 r1 r2 r3 r4
          generalize wr.drewN nq = W2 at HR2 HB2 ⊢
          have xb := arrB_bd M m (m + 1)
          have yb := arrB_bd M m (m + 14)
          have c1 : W2.drew.cell? ⟨w.heap.size, m, none⟩ = some (.int .u32 (arrB M m m)) := HR2.out.cell (by omega)
          have c2 : W2.drew.cell? ⟨w.heap.size, m + 9, none⟩ = some (.int .u32 (arrB M m (m + 9))) := HR2.out.cell (by omega)
          have q1 : (16 + (m : Int) - 16).toNat = m := by omega
          have q2 : (16 + (m : Int) - 7).toNat = m + 9 := by omega
          have q3 : (16 + (m : Int)).toNat = 16 + m := by omega
          have w1 : IntKind.i64.wrap (16 + (m : Int) - 16) = 16 + (m : Int) - 16 := IntWalk.i64_in _ (by omega)
          have w2 : IntKind.i64.wrap (16 + (m : Int) - 7) = 16 + (m : Int) - 7 := IntWalk.i64_in _ (by omega)
          have r1 : 0 ≤ 16 + (m : Int) - 16 := by omega
          have r7 : (16 : Int) ≤ 16 + (m : Int) := by omega
          have r8 : (7 : Int) ≤ 16 + (m : Int) := by omega
          have r2 : 16 + (m : Int) - 16 < 64 := by omega
          have r3 : 0 ≤ 16 + (m : Int) - 7 := by omega
          have r4 : 16 + (m : Int) - 7 < 64 := by omega
          have r5 : 0 ≤ 16 + (m : Int) := by omega
          have r6 : 16 + (m : Int) < 64 := by omega
          refine wp_region_still_tail 29 (by kernel_rfl) (by kernel_rfl) ?_
          simp only [List.take_succ_cons, List.take_zero, List.drop_succ_cons, List.drop_zero]
          show wpStill _ _ (World.drew _) _ _ _
          repeat still_step
          still_call (turned_7 _ _ xb.1 xb.2)
          repeat still_step
          still_call (turned_18 _ _ xb.1 xb.2)
          repeat still_step
          still_call (turned_17 _ _ yb.1 yb.2)
          repeat still_step
          still_call (turned_19 _ _ yb.1 yb.2)
          repeat still_step
          refine wpStill_nil ?_
          show wpList _ _ _ _ _ (World.drew _)
          have cw : W2.cell? ⟨w.heap.size, 16 + m, none⟩ = some (.int .u32 (arrB M m (16 + m))) := HR2.out.cell (by omega)
          have fw := HR2.out.frozen (16 + m)
          go_wp2_with fail
          exact rel2_step hlt HR2.out HB2.out
        · have hm48 : m = 48 := by omega
          rw [hm48] at HR
          have hmc : (m : Int) = 48 := by omega
          clear hlt hm hm48
          go_wp2_with fail
          have cS : ∀ j, j < 8 → wr.cell? ⟨sb, j, none⟩ = some (.int .u32 (S j)) := fun j hj => (HB.out.cell (p := ⟨sb, j, none⟩) Hs.out.lt).trans (Hs.out.cell hj)
          have s0 := cS 0 (by omega)
          have s1 := cS 1 (by omega)
          have s2 := cS 2 (by omega)
          have s3 := cS 3 (by omega)
          have s4 := cS 4 (by omega)
          have s5 := cS 5 (by omega)
          have s6 := cS 6 (by omega)
          have s7 := cS 7 (by omega)
          clear cS hmc
          go_quiet (fail)
          clear s0 s1 s2 s3 s4 s5 s6 s7
          have HR2 : Hid ((wr.drewN nq).rowIs w.heap.size 152 64 (u32V (arrB M 48))) := HR.out
          have HB2 : Hid (Below w.heap.size w (wr.drewN nq)) := ⟨HB.out.os, HB.out.tape, HB.out.output, HB.out.size, HB.out.block⟩
          clear HR HB
          generalize wr.drewN nq = W2 at HR2 HB2 ⊢
          go_wp2_with fail
          go_loopw [11, 12, 13, 14, 15, 16, 17, 18, 136] (fun a b c d e f g h i wr => BlkRel3 K (arrB M 48) ⟨S 0, S 1, S 2, S 3, S 4, S 5, S 6, S 7⟩ w.heap.size w a b c d e f g h i wr) (fun _ _ _ _ _ _ _ _ i _ => 64 - (intOf i).toNat)
          case atStart => exact ⟨0, Nat.zero_le _, rfl, rfl, rfl, rfl, rfl, rfl, rfl, rfl, rfl, HR2.out, HB2.out⟩
          case round =>
            clear HR2 HB2
            obtain ⟨t, ht, rfl, rfl, rfl, rfl, rfl, rfl, rfl, rfl, rfl, hR, hB⟩ := hrel
            have HR := Lib.hid hR
            have HB := Lib.hid hB
            clear hR hB
            by_cases hlt : t < 64
            · have rb := rnds_bd K (arrB M 48) ⟨S 0, S 1, S 2, S 3, S 4, S 5, S 6, S 7⟩ (r8_bd HSb.out) t
              generalize hr : rnds K (arrB M 48) ⟨S 0, S 1, S 2, S 3, S 4, S 5, S 6, S 7⟩ t = R at rb ⊢
              have Hr := Lib.hid hr
              clear hr
              obtain ⟨⟨a0, a1⟩, ⟨b0, b1⟩, ⟨x0, x1⟩, ⟨d0, d1⟩, ⟨e0, e1⟩, ⟨f0, f1⟩, ⟨g0, g1⟩, ⟨h0, h1⟩⟩ := rb
              have ck : wr.drew.cell? ⟨kb, t, none⟩ = some (.int .u32 (K t)) := (HB.out.cell (p := ⟨kb, t, none⟩) Hk.out.lt).trans (Hk.out.cell hlt)
              have cw : wr.drew.cell? ⟨w.heap.size, t, none⟩ = some (.int .u32 (arrB M 48 t)) := HR.out.cell hlt
              have r1 : (0 : Int) ≤ (t : Int) := by omega
              have r2 : (t : Int) < 64 := by omega
              go_wp2_with fail
              refine wp_region_still_lit (by kernel_rfl) (by kernel_rfl) ?_
              show wpStill _ _ (World.drew _) _ _ _
              repeat still_step
              still_call (turned_6 _ _ e0 e1)
              repeat still_step
              still_call (turned_11 _ _ e0 e1)
              repeat still_step
              still_call (turned_25 _ _ e0 e1)
              repeat still_step
              refine wpStill_nil ?_
              go_wp2_with fail
              refine (turned_2 _ _ a0 a1).mono ?_
              rintro e' w' ⟨rfl, rfl⟩
              go_wp2_with fail
              refine (turned_13 _ _ a0 a1).mono ?_
              rintro e' w' ⟨rfl, rfl⟩
              go_wp2_with fail
              refine (turned_22 _ _ a0 a1).mono ?_
              rintro e' w' ⟨rfl, rfl⟩
              go_wp2_with fail
              exact rel3_step hlt Hr.out HR.out HB.out
            · have ht64 : t = 64 := by omega
              have htc : (t : Int) = 64 := by omega
              have hdef : comp K S M = arrS S (rnds K (arrB M 48) ⟨S 0, S 1, S 2, S 3, S 4, S 5, S 6, S 7⟩ t) 8 := by rw [ht64]; rfl
              have rb := rnds_bd K (arrB M 48) ⟨S 0, S 1, S 2, S 3, S 4, S 5, S 6, S 7⟩ (r8_bd HSb.out) t
              have Hrb := Lib.hid rb
              have Hdef := Lib.hid hdef
              clear rb hdef ht64 ht hlt
              generalize rnds K (arrB M 48) ⟨S 0, S 1, S 2, S 3, S 4, S 5, S 6, S 7⟩ t = R at Hrb Hdef ⊢
              have hix := index8 R.a R.b R.c R.d R.e R.f R.g R.h
              go_wp2_with fail
              clear htc
              go_loopw [210] (fun i wr => BlkRel4 S R sb ts w i wr) (fun i _ => 8 - (intOf i).toNat)
              case atStart => exact ⟨0, Nat.zero_le _, rfl, Hs.out.of_block (HB.out.block sb Hs.out.lt), Kp.of_below HB.out⟩
              case round =>
                clear HR HB
                obtain ⟨k, hk, rfl, hR, hB⟩ := hrel
                have HR := Lib.hid hR
                have HB := Lib.hid hB
                clear hR hB
                by_cases hlt : k < 8
                · have hix2 := fun W => hix k hlt W
                  clear hix
                  have gb := Hrb.out.get k
                  have sbd := arrS_bd HSb.out R k k
                  have c1 : wr.drew.cell? ⟨sb, k, none⟩ = some (.int .u32 (arrS S R k k)) := HR.out.cell hlt
                  have c2 : wr.cell? ⟨sb, k, none⟩ = some (.int .u32 (arrS S R k k)) := HR.out.cell hlt
                  have fw := HR.out.frozen k
                  have r1 : (0 : Int) ≤ (k : Int) := by omega
                  have r2 : (k : Int) < 8 := by omega
                  go_wp2_with fail
                  refine wp_region_still_tail 9 (by kernel_rfl) (by kernel_rfl) ?_
                  simp only [List.take_succ_cons, List.take_zero, List.drop_succ_cons, List.drop_zero]
                  show wpStill _ _ (World.drew _) _ _ _
                  repeat still_step
                  refine wpStill_nil ?_
                  show wpList _ _ _ _ _ (World.drew _)
                  go_wp2_with fail
                  exact rel4_step hlt HR.out HB.out
                · have hk8 : k = 8 := by omega
                  have hkc : (k : Int) = 8 := by omega
                  rw [hk8] at HR
                  clear hk8 hk hlt hix
                  go_wp2_with fail
                  go_end0
                  have hF : wr.rowIs sb ts 8 (u32V (comp K S M)) := by rw [Hdef.out]; exact HR.out
                  exact ⟨rfl, hF, HB.out⟩
end Go.Proofs.YtmejjphliaiamaaGreatDoor
