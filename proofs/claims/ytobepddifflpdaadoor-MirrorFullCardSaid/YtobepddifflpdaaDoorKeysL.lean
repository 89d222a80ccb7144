/-
  DERIVED: THE SHELF's CONTRACTS AT THIS DUMP, IN PLAIN WORDS (tools/lay-plain.mjs out of 'TrydKeysShelf.lean', which tools/lay-shelf.mjs wrote): THE SAME DECLARATIONS UNDER THE SAME NAMES: 'import', 'namespace', 'open', 'def', 'theorem' AND NOTHING ELSE: no command of the shelf's: FOR A HAND-IN. Each laying: the table of numbers ('.._ren') and one theorem, a field a fact of the dump's own or the kernel's comparison; each contract: ONE APPLICATION.
-/
import Derived.Shelf.SlGeneric
import Derived.Shelf.SlIter.Nil
import Derived.Shelf.SortM.Plain
import Derived.Shelf.SortM.SortNone
import Derived.Ground.GgzProg
import Derived.Ground.SlgmProg
import Derived.Test.YtobepddifflpdaaDoorProg
namespace Go.Proofs
open Go.Shelf
def Tryd.keys61_ren : Go.Shelf.Ren := ⟨fun | 7 => 61 | 10 => 79 | n => n, fun | 23 => 58 | 26 => 9 | 3 => 109 | 28 => 113 | 0 => 0 | 27 => 112 | 33 => 64 | 4 => 4 | n => n, fun | n => n⟩
theorem Tryd.keys61 : Go.Proofs.SlLaysZ.n7 Tryd.prog Tryd.keys61_ren := {
  mixed := by kernel_rfl
  f7 := ⟨Tryd.f61.name, by decide, Tryd.func61.trans (congrArg some (by kernel_rfl))⟩
  f10 := ⟨Tryd.f79.name, by decide, Tryd.func79.trans (congrArg some (by kernel_rfl))⟩
  t0 := Tryd.underlying0
  a0 := Tryd.isAgg0
  z0 := Tryd.sizeOf0
  v0 := Tryd.zeroValue0
  t4 := Tryd.underlying4
  a4 := Tryd.isAgg4
  z4 := Tryd.sizeOf4
  v4 := Tryd.zeroValue4
  t23 := Tryd.underlying58
  a23 := Tryd.isAgg58
  z23 := Tryd.sizeOf58
  v23 := Tryd.zeroValue58
  t26 := Tryd.underlying9
  a26 := Tryd.isAgg9
  z26 := Tryd.sizeOf9
  v26 := Tryd.zeroValue9
  t27 := Tryd.underlying112
  a27 := Tryd.isAgg112
  z27 := Tryd.sizeOf112
  v27 := Tryd.zeroValue112
  t28 := Tryd.underlying113
  a28 := Tryd.isAgg113
  z28 := Tryd.sizeOf113
  v28 := Tryd.zeroValue113
  t33 := Tryd.underlying64
  a33 := Tryd.isAgg64
  z33 := Tryd.sizeOf64
  v33 := Tryd.zeroValue64 }
def Tryd.sorted60_ren : Go.Shelf.Ren := ⟨fun | 6 => 60 | 8 => 77 | 9 => 78 | 11 => 98 | 13 => 74 | 12 => 99 | 23 => 89 | 24 => 90 | 14 => 115 | 15 => 116 | 16 => 117 | 17 => 118 | 18 => 119 | 19 => 120 | 20 => 121 | 21 => 122 | 22 => 123 | 25 => 132 | 26 => 133 | 27 => 134 | 28 => 135 | 29 => 136 | 30 => 137 | 31 => 143 | n => n, fun | 26 => 9 | 28 => 113 | 24 => 29 | 0 => 0 | 3 => 3 | 37 => 39 | 48 => 132 | 50 => 134 | 4 => 4 | 40 => 171 | 39 => 170 | 45 => 174 | 5 => 5 | 9 => 9 | 51 => 183 | 55 => 187 | 57 => 195 | 58 => 196 | 33 => 64 | n => n, fun | n => n⟩
theorem Tryd.sorted60 : Go.Proofs.SlLaysZ.n6 Tryd.prog Tryd.sorted60_ren := {
  mixed := by kernel_rfl
  f6 := ⟨Tryd.f60.name, by decide, Tryd.func60.trans (congrArg some (by kernel_rfl))⟩
  f8 := ⟨Tryd.f77.name, by decide, Tryd.func77.trans (congrArg some (by kernel_rfl))⟩
  f11 := ⟨Tryd.f98.name, by decide, Tryd.func98.trans (congrArg some (by kernel_rfl))⟩
  t0 := Tryd.underlying0
  a0 := Tryd.isAgg0
  z0 := Tryd.sizeOf0
  v0 := Tryd.zeroValue0
  t24 := Tryd.underlying29
  a24 := Tryd.isAgg29
  z24 := Tryd.sizeOf29
  v24 := Tryd.zeroValue29
  t26 := Tryd.underlying9
  a26 := Tryd.isAgg9
  z26 := Tryd.sizeOf9
  v26 := Tryd.zeroValue9
  t28 := Tryd.underlying113
  a28 := Tryd.isAgg113
  z28 := Tryd.sizeOf113
  v28 := Tryd.zeroValue113
  i26 := by kernel_rfl }
def Tryd.sort78_ren : Go.Shelf.Ren := ⟨fun | 6 => 78 | 8 => 74 | 9 => 99 | 19 => 89 | 20 => 90 | 21 => 115 | 22 => 116 | 23 => 117 | 24 => 118 | 25 => 119 | 26 => 120 | 27 => 121 | 28 => 122 | 29 => 123 | 36 => 132 | 31 => 133 | 32 => 134 | 37 => 135 | 38 => 136 | 39 => 137 | 41 => 143 | n => n, fun | 27 => 29 | 29 => 9 | 3 => 3 | 32 => 39 | 26 => 29 | 0 => 0 | 44 => 132 | 46 => 134 | 4 => 4 | 36 => 171 | 35 => 170 | 41 => 174 | 5 => 5 | 9 => 9 | 53 => 183 | 57 => 187 | 63 => 195 | 64 => 196 | n => n, fun | n => n⟩
theorem Tryd.sort78 : Go.Proofs.SlLaysM.n6 Tryd.prog Tryd.sort78_ren := {
  mixed := by kernel_rfl
  f6 := ⟨Tryd.f78.name, by decide, Tryd.func78.trans (congrArg some (by kernel_rfl))⟩
  f8 := Tryd.func74.trans (congrArg some (by kernel_rfl))
  f9 := ⟨Tryd.f99.name, by decide, Tryd.func99.trans (congrArg some (by kernel_rfl))⟩
  f19 := Tryd.func89.trans (congrArg some (by kernel_rfl))
  f20 := Tryd.func90.trans (congrArg some (by kernel_rfl))
  f21 := ⟨Tryd.f115.name, by decide, Tryd.func115.trans (congrArg some (by kernel_rfl))⟩
  f22 := ⟨Tryd.f116.name, by decide, Tryd.func116.trans (congrArg some (by kernel_rfl))⟩
  f23 := ⟨Tryd.f117.name, by decide, Tryd.func117.trans (congrArg some (by kernel_rfl))⟩
  f24 := ⟨Tryd.f118.name, by decide, Tryd.func118.trans (congrArg some (by kernel_rfl))⟩
  f25 := ⟨Tryd.f119.name, by decide, Tryd.func119.trans (congrArg some (by kernel_rfl))⟩
  f26 := ⟨Tryd.f120.name, by decide, Tryd.func120.trans (congrArg some (by kernel_rfl))⟩
  f27 := ⟨Tryd.f121.name, by decide, Tryd.func121.trans (congrArg some (by kernel_rfl))⟩
  f28 := ⟨Tryd.f122.name, by decide, Tryd.func122.trans (congrArg some (by kernel_rfl))⟩
  f29 := ⟨Tryd.f123.name, by decide, Tryd.func123.trans (congrArg some (by kernel_rfl))⟩
  f31 := Tryd.func133.trans (congrArg some (by kernel_rfl))
  f32 := Tryd.func134.trans (congrArg some (by kernel_rfl))
  f36 := ⟨Tryd.f132.name, by decide, Tryd.func132.trans (congrArg some (by kernel_rfl))⟩
  f37 := ⟨Tryd.f135.name, by decide, Tryd.func135.trans (congrArg some (by kernel_rfl))⟩
  f38 := ⟨Tryd.f136.name, by decide, Tryd.func136.trans (congrArg some (by kernel_rfl))⟩
  f39 := ⟨Tryd.f137.name, by decide, Tryd.func137.trans (congrArg some (by kernel_rfl))⟩
  f41 := ⟨Tryd.f143.name, by decide, Tryd.func143.trans (congrArg some (by kernel_rfl))⟩
  t0 := Tryd.underlying0
  a0 := Tryd.isAgg0
  z0 := Tryd.sizeOf0
  v0 := Tryd.zeroValue0
  t3 := Tryd.underlying3
  a3 := Tryd.isAgg3
  z3 := Tryd.sizeOf3
  v3 := Tryd.zeroValue3
  t4 := Tryd.underlying4
  a4 := Tryd.isAgg4
  z4 := Tryd.sizeOf4
  v4 := Tryd.zeroValue4
  t5 := Tryd.underlying5
  a5 := Tryd.isAgg5
  z5 := Tryd.sizeOf5
  v5 := Tryd.zeroValue5
  t9 := Tryd.underlying9
  a9 := Tryd.isAgg9
  z9 := Tryd.sizeOf9
  v9 := Tryd.zeroValue9
  t26 := Tryd.underlying29
  a26 := Tryd.isAgg29
  z26 := Tryd.sizeOf29
  v26 := Tryd.zeroValue29
  t27 := Tryd.underlying29
  a27 := Tryd.isAgg29
  z27 := Tryd.sizeOf29
  v27 := Tryd.zeroValue29
  t29 := Tryd.underlying9
  a29 := Tryd.isAgg9
  z29 := Tryd.sizeOf9
  v29 := Tryd.zeroValue9
  t32 := Tryd.underlying39
  a32 := Tryd.isAgg39
  z32 := Tryd.sizeOf39
  v32 := Tryd.zeroValue39
  t35 := Tryd.underlying170
  a35 := Tryd.isAgg170
  z35 := Tryd.sizeOf170
  v35 := Tryd.zeroValue170
  t36 := Tryd.underlying171
  a36 := Tryd.isAgg171
  z36 := Tryd.sizeOf171
  v36 := Tryd.zeroValue171
  t41 := Tryd.underlying174
  a41 := Tryd.isAgg174
  z41 := Tryd.sizeOf174
  v41 := Tryd.zeroValue174
  t44 := Tryd.underlying132
  a44 := Tryd.isAgg132
  z44 := Tryd.sizeOf132
  v44 := Tryd.zeroValue132
  t46 := Tryd.underlying134
  a46 := Tryd.isAgg134
  z46 := Tryd.sizeOf134
  v46 := Tryd.zeroValue134
  t53 := Tryd.underlying183
  a53 := Tryd.isAgg183
  z53 := Tryd.sizeOf183
  v53 := Tryd.zeroValue183
  t57 := Tryd.underlying187
  a57 := Tryd.isAgg187
  z57 := Tryd.sizeOf187
  v57 := Tryd.zeroValue187
  t63 := Tryd.underlying195
  a63 := Tryd.isAgg195
  z63 := Tryd.sizeOf195
  v63 := Tryd.zeroValue195
  t64 := Tryd.underlying196
  a64 := Tryd.isAgg196
  z64 := Tryd.sizeOf196
  v64 := Tryd.zeroValue196 }
end Go.Proofs
