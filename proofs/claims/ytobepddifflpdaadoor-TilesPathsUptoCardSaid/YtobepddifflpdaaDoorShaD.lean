import Derived.Test.YtobepddifflpdaaDoorShaC
import Derived.Test.YtobepddifflpdaaDoorByZ
import Derived.Great.BuildSlice
import Derived.Deep.WholeRow
set_option linter.unusedVariables false
namespace Go.Proofs.YtobepddifflpdaaDoor
open Go Go.RowKit Go.Lib

def kNums : List Int := [1116352408, 1899447441, 3049323471, 3921009573, 961987163, 1508970993, 2453635748, 2870763221, 3624381080, 310598401, 607225278, 1426881987, 1925078388, 2162078206, 2614888103, 3248222580, 3835390401, 4022224774, 264347078, 604807628, 770255983, 1249150122, 1555081692, 1996064986, 2554220882, 2821834349, 2952996808, 3210313671, 3336571891, 3584528711, 113926993, 338241895, 666307205, 773529912, 1294757372, 1396182291, 1695183700, 1986661051, 2177026350, 2456956037, 2730485921, 2820302411, 3259730800, 3345764771, 3516065817, 3600352804, 4094571909, 275423344, 430227734, 506948616, 659060556, 883997877, 958139571, 1322822218, 1537002063, 1747873779, 1955562222, 2024104815, 2227730452, 2361852424, 2428436474, 2756734187, 3204031479, 3329325298]
def kCells : Array Value := (kNums.map (Value.int .u32)).toArray
def kF (i : Nat) : Int := kNums.getD i 0
def hNums : List Int := [1779033703, 3144134277, 1013904242, 2773480762, 1359893119, 2600822924, 528734635, 1541459225]
def hF (i : Nat) : Int := hNums.getD i 0
theorem hF_bd (j : Nat) : 0 ≤ hF j ∧ hF j < 4294967296 := by
  unfold hF
  rcases Nat.lt_or_ge j 8 with h | h
  · have h8 : j = 0 ∨ j = 1 ∨ j = 2 ∨ j = 3 ∨ j = 4 ∨ j = 5 ∨ j = 6 ∨ j = 7 := by omega
    rcases h8 with rfl | rfl | rfl | rfl | rfl | rfl | rfl | rfl <;> decide
  · rw [List.getD_eq_getElem?_getD, List.getElem?_eq_none (by simpa [hNums] using h)]
    decide

theorem k_row (w : World) (t : TypeId) : (w.alloc (.cells kCells t)).rowIs w.heap.size t 64 (u32V kF) := by
  refine World.rowIs_alloc w kCells t (u32V kF) ?_
  intro i hi
  have h1 : i < kNums.length := by simpa [kCells] using hi
  unfold kCells u32V kF
  rw [List.getElem?_toArray, List.getElem?_map, List.getElem?_eq_getElem h1, List.getD_eq_getElem?_getD, List.getElem?_eq_getElem h1]
  rfl

set_option maxRecDepth 100000 in
set_option maxHeartbeats 4000000 in
theorem constants_any (w : World) : Calls Tryd.prog 108 #[] w fun e w' => e = .returned (.pointer (some ⟨w.heap.size, 0, none⟩)) ∧ w.alloc (.cells kCells 138) = w' := by
  go_enter Tryd.func108, Tryd.ntmps108
  go_wp2
  go_ret
  exact ⟨rfl, rfl⟩

set_option maxRecDepth 100000 in
set_option maxHeartbeats 4000000 in
theorem words_any (w : World) : Calls Tryd.prog 92 #[] w fun e w' => e = .returned (.agg kCells) ∧ Below w.heap.size w w' := by
  have hi : (Tryd.prog.info? 138).map (·.size) = some kCells.size := by kernel_rfl
  have h1 : kCells.all (·.oneCell') = true := by kernel_rfl
  go_enter Tryd.func92, Tryd.ntmps92
  go_wp2_with (first | refine wpList_store_row rfl 138 _ _ rfl w.heap.size kCells rfl rfl 138 _ (heap_alloc_last _ _) hi rfl h1 ?_ | fail)
  rw [World.setRow_alloc_new]
  refine bodyPost_ret (v := .agg kCells) (results_cell_row rfl _ _ w.heap.size 138 kCells (0, 0) (.array 64 132) rfl (heap_alloc_last _ _) (by kernel_rfl) rfl hi) rfl ⟨rfl, (Below.refl _ _).alloc (Nat.le_refl _) _⟩

def begin8 : Value := .agg #[.int .u32 (hF 0), .int .u32 (hF 1), .int .u32 (hF 2), .int .u32 (hF 3), .int .u32 (hF 4), .int .u32 (hF 5), .int .u32 (hF 6), .int .u32 (hF 7)]
set_option maxRecDepth 100000 in
theorem begin_any (w : World) : Calls Tryd.prog 107 #[] w fun e w' => e = .returned begin8 ∧ Below w.heap.size w w' := by
  go_enter Tryd.func107, Tryd.ntmps107
  go_wp2
  refine bodyPost_ret (v := begin8) (by simp [results, Tryd.results107, begin8, hF, hNums, go_sem]) rfl ⟨rfl, (Below.refl _ _).alloc (Nat.le_refl _) _⟩

end Go.Proofs.YtobepddifflpdaaDoor
