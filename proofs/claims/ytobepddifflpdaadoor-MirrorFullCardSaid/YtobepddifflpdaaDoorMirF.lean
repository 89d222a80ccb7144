import Derived.Test.YtobepddifflpdaaDoorMirD
import Derived.Test.YtobepddifflpdaaDoorTlP
set_option linter.unusedVariables false
namespace Go.Proofs.YtobepddifflpdaaDoor
open Go Go.RowKit Go.Maps Go.WideMaps

/-! the files' names -/
def keyF (j : Nat) : ByteArray := ⟨#[102]⟩ ++ itoaB j
def sOther : ByteArray := ⟨#[111, 116, 104, 101, 114]⟩
theorem itoaB_nat (j : Nat) : (itoaB j).size = (Lib.decDigits j).length := by
  unfold itoaB Lib.itoa
  rw [if_neg (by omega), Int.toNat_natCast]
  simp [ByteArray.size]
theorem keyF_size (j : Nat) (h : j < 1000) : 0 < (keyF j).size ∧ (keyF j).size ≤ 64 := by
  unfold keyF
  rw [ByteArray.size_append, itoaB_nat]
  have h1 := dec_len_lt 2 j (by omega)
  have h2 : (⟨#[102]⟩ : ByteArray).size = 1 := rfl
  omega
theorem keyF_inj {i j : Nat} (hi : i < 1000) (hj : j < 1000) (h : keyF i = keyF j) : i = j := by
  have h1 : itoaB i = itoaB j := by
    have := behind_app ⟨#[102]⟩ (itoaB i)
    unfold keyF at h
    rw [h, behind_app] at this
    exact (Option.some.inj this).symm
  have hn : noDig ⟨#[]⟩ := by intro c hc; cases hc
  have h2 := (dig_app i (by omega) ⟨#[]⟩ hn).1
  rw [h1, (dig_app j (by omega) ⟨#[]⟩ hn).1] at h2
  omega
theorem keyF_zero : keyF 0 = ⟨#[102, 48]⟩ := by decide +kernel
theorem keyF_one : keyF 1 = ⟨#[102, 49]⟩ := by decide +kernel
theorem keyF_other (j : Nat) : sOther ≠ keyF j := by
  intro h
  have h1 : sOther.data[0]? = some 111 := by decide +kernel
  have h2 : (keyF j).data[0]? = some 102 := by
    unfold keyF
    rw [ByteArray.data_append, Array.getElem?_append_left (by decide)]
    rfl
  rw [h, h2] at h1
  exact absurd h1 (by decide)

/-! what stands after so many -/
def DF (t : ByteArray) : Nat → DataW Unit
  | 0 => .map []
  | j + 1 => (DF t j).put (kS (keyF j)) (dS t)
theorem tidyF (t : ByteArray) : ∀ j, Tidy (DF t j)
  | 0 => tidy_empty
  | j + 1 => (tidyF t j).put (by trivial) _
theorem mgetF (t : ByteArray) : ∀ (j m : Nat), j ≤ 999 → m < 1000 → mget (DF t j) (keyF m) = if m < j then some t else none
  | 0, m, _, _ => by rw [if_neg (by omega)]; exact mget_empty _
  | j + 1, m, hj, hm => by
    unfold DF
    by_cases h : m = j
    · subst h; rw [mget_put_same (tidyF t m).isMap, if_pos (by omega)]
    · rw [mget_put_other t (fun e => h (keyF_inj hm (by omega) e)), mgetF t j m (by omega) hm]
      by_cases h2 : m < j
      · rw [if_pos h2, if_pos (by omega)]
      · rw [if_neg h2, if_neg (by omega)]
theorem mgetF_other (t : ByteArray) : ∀ j, mget (DF t j) sOther = none
  | 0 => mget_empty _
  | j + 1 => by
    unfold DF
    rw [mget_put_other t (keyF_other j), mgetF_other t j]
theorem has_of_mget {D : DataW Unit} {p : ByteArray} : has D (kS p) = (mget D p).isSome := by
  unfold mget
  by_cases h : has D (kS p) = true
  · rw [if_pos h, h]; rfl
  · rw [if_neg h]; simpa using h
theorem size_put_new {D : DataW Unit} {p : ByteArray} (t : ByteArray) (hD : Tidy D) (h : mget D p = none) : Maps.size (D.put (kS p) (dS t)) = Maps.size D + 1 := by
  rw [size_put hD, has_of_mget, h]; rfl
theorem size_put_old {D : DataW Unit} {p : ByteArray} {s : ByteArray} (t : ByteArray) (hD : Tidy D) (h : mget D p = some s) : Maps.size (D.put (kS p) (dS t)) = Maps.size D := by
  rw [size_put hD, has_of_mget, h]; rfl
theorem size_del_old {D : DataW Unit} {p : ByteArray} {s : ByteArray} (hD : Tidy D) (h : mget D p = some s) : Maps.size (D.del (kS p)) + 1 = Maps.size D := by
  have := size_del (k := kS p) hD
  rw [has_of_mget, h] at this
  exact this
theorem sizeF (t : ByteArray) : ∀ j, j ≤ 999 → Maps.size (DF t j) = j
  | 0, _ => rfl
  | j + 1, h => by
    unfold DF
    rw [size_put_new t (tidyF t j) (by rw [mgetF t j j (by omega) (by omega), if_neg (by omega)]), sizeF t j (by omega)]

/-! a file is taken away -/
def DropOk (a : Addr) (b n : Nat) (D : DataW Unit) (w : World) (e : Ending) (w' : World) : Prop := e = .returned (.bool true) ∧ Mir w' a (some b) n D ∧ Kp (PutS a (some b)) w w'
set_option maxRecDepth 100000 in
theorem drop_ok (a : Addr) (b n : Nat) (D : DataW Unit) (p s : ByteArray) (w : World) (hp : p.size ≤ maxLen) (hM : Mir w a (some b) n D) (hg : mget D p = some s) :
    Calls Tryd.prog 30 #[.pointer (some a), .string p] w (DropOk a b n (D.del (kS p)) w) := by
  have Hk := Lib.hid (key_mk hp)
  have HM := Lib.hid hM
  have HG := Lib.hid hg
  clear hM hg
  go_enter Tryd.func30, Tryd.ntmps30
  go_wp2_with fail
  refine (file_ok a (some b) n D p s w hp HM.out.cell HM.out.map HG.out).mono ?_
  rintro e w1 ⟨rfl, hb1⟩
  have hM1 := HM.out.below hb1
  have hc := hM1.cell
  have HM1 := Lib.hid hM1
  have HB1 := Lib.hid hb1
  clear hM1 hb1
  go_wp2_with (first
    | (at_delete; refine wpList_delete_own _ rfl _ _ 58 9 rfl 109 keyedS Tryd.underlying58 fileR b n D rfl HM1.out.map _ _ rfl Hk.out ?_)
    | fail)
  intro w2 hown hturn
  have hk : Kp (fun k => some b = some k) w1 w2 := (Kp.refl _ _).grown hturn.grown (fun k hk => .inl hk)
  have hne := HM1.out.ne b rfl
  have hM2 : Mir w2 a (some b) n (D.del (kS p)) := ⟨(hk.cell HM1.out.lt (fun e => hne (by injection e))).trans HM1.out.cell, (hk.frozen HM1.out.lt (fun e => hne (by injection e))).trans HM1.out.free, HM1.out.ne, hown⟩
  have HM2 := Lib.hid hM2
  have HK2 := Lib.hid ((Kp.of_below (S := PutS a (some b)) HB1.out).trans (hk.mono (fun k hk => .inr hk)))
  clear hM2 hk hown hturn
  go_wp2_with fail
  go_ret
  exact ⟨rfl, HM2.out, HK2.out⟩
set_option maxRecDepth 100000 in
theorem drop_no (a : Addr) (v : Option Nat) (n : Nat) (D : DataW Unit) (p : ByteArray) (w : World) (hp : p.size ≤ maxLen) (hM : Mir w a v n D) (hg : mget D p = none) :
    Calls Tryd.prog 30 #[.pointer (some a), .string p] w fun e w' => e = .returned (.bool false) ∧ Below w.heap.size w w' := by
  have HM := Lib.hid hM
  have HG := Lib.hid hg
  clear hM hg
  go_enter Tryd.func30, Tryd.ntmps30
  go_wp2_with fail
  refine (file_no a v n D p w hp HM.out.cell HM.out.map HG.out).mono ?_
  rintro e w1 ⟨rfl, hb1⟩
  have HB1 := Lib.hid hb1
  clear hb1
  go_wp2_with fail
  go_ret
  exact ⟨rfl, HB1.out⟩
end Go.Proofs.YtobepddifflpdaaDoor
