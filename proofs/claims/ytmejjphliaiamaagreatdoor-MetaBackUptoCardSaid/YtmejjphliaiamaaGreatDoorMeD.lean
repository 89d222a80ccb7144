import Derived.Test.YtmejjphliaiamaaGreatDoorMeC
set_option linter.unusedVariables false
set_option linter.unusedSimpArgs false
namespace Go.Proofs.YtmejjphliaiamaaGreatDoor
open Go Go.RowKit Go.Lib

/-! ### is a document good -/
theorem DocAt.later {w w' : World} {b : Nat} {d : DV} (h : DocAt w b d) (k : Below w.heap.size w w') : DocAt w' b d := blk_later h k
def chkB (d d2 : DV) (g : Bool) : Bool := decide (1 ≤ d.ver ∧ d.ver ≤ 65535) && (decide (0 ≤ d.exp ∧ d.exp ≤ 1099511627776) && (g && emptyB d2))
def chkE (b : Bool) : Int := if b = true then 0 else 1
abbrev GoodC (fg : Nat) (d : DV) (g : Bool) (w : World) : Prop := ∀ W b, Below w.heap.size w W → DocAt W b d → Calls Tryz.prog fg #[.pointer (some ⟨b, 0, none⟩)] W fun e w' => e = .returned (.bool g) ∧ Below W.heap.size W w'
abbrev ZeroC (fz : Nat) (d d2 : DV) (w : World) : Prop := ∀ W b, Below w.heap.size w W → DocAt W b d → Calls Tryz.prog fz #[.pointer (some ⟨b, 0, none⟩)] W fun e w' => e = .returned (.tuple #[]) ∧ DocK b d2 W w'
abbrev FormC (k : Int) (fg fl ft fz : Nat) : Prop := ∀ W, Calls Tryz.prog 37 #[.int .i64 k] W fun e w' => e = .returned (.tuple #[formF fg fl ft fz, .bool true]) ∧ Below W.heap.size W w'
abbrev Ent (g : Nat) : Prop := ∀ args w, (callFunc g args).run Tryz.prog w = .ok (.enter g args) w

set_option maxRecDepth 100000 in
set_option maxHeartbeats 4000000 in
theorem check_form (fg fl ft fz : Nat) (d d2 : DV) (g : Bool) (w : World) (eg : Ent fg) (ez : Ent fz) (hf : FormC d.kind fg fl ft fz) (hg : GoodC fg d g w) (hz : ZeroC fz d d2 w) :
    Calls Tryz.prog 10 #[docV d] w fun e w' => e = .returned (.int .i64 (chkE (chkB d d2 g))) ∧ Below w.heap.size w w' := by
  have hd : DocAt (w.alloc (.cells (docC d) 30)) w.heap.size d := blk_new _ _
  have hB : Below w.heap.size w (w.alloc (.cells (docC d) 30)) := (Below.refl _ w).alloc (Nat.le_refl _) _
  have hlt : w.heap.size < (w.alloc (.cells (docC d) 30)).heap.size := by rw [size_alloc]; omega
  obtain ⟨w1, hw1⟩ : ∃ w1, w1 = w.alloc (.cells (docC d) 30) := ⟨_, rfl⟩
  rw [← hw1] at hd hB hlt
  obtain ⟨R, hR⟩ : ∃ R, R = chkE (chkB d d2 g) := ⟨_, rfl⟩
  rw [← hR]
  unfold docV
  have HR := Lib.hid hR
  have HD := Lib.hid hd
  have HB := Lib.hid hB
  have HF := Lib.hid hf
  have HG := Lib.hid hg
  have HZ := Lib.hid hz
  have HN := Lib.hid (fun W => mnumber_any d.ver W)
  unfold FormC formF at HF
  have c0 : (w.alloc (.cells (docC d) 30)).cell? ⟨w.heap.size, 0, none⟩ = some (.int .i64 d.kind) := by rw [← hw1]; exact cell_of_blk hd 0 (v := .int .i64 d.kind) rfl
  clear hR hd hB hf hg hz
  go_enter Tryz.func10, Tryz.ntmps10
  go_wp2_with fail
  rw [← hw1]
  clear hw1
  refine (HF.out w1).mono ?_
  rintro e w2 ⟨rfl, hb2⟩
  have hd2 : DocAt w2 w.heap.size d := HD.out.later hb2
  have HB2 := Lib.hid (HB.out.trans (hb2.mono HB.out.size))
  have HD2 := Lib.hid hd2
  clear hb2 HB HD c0 hd2 HF hlt
  have hd3 : DocAt (w2.alloc (.cells #[.func (.func fg) #[] #[], .func (.func fl) #[] #[], .func (.func ft) #[] #[], .func (.func fz) #[] #[]] 82)) w.heap.size d := blk_alloc HD2.out _
  have hf3 := blk_new w2 (.cells #[.func (.func fg) #[] #[], .func (.func fl) #[] #[], .func (.func ft) #[] #[], .func (.func fz) #[] #[]] 82)
  have hb3 := HB2.out.alloc HB2.out.size (.cells #[.func (.func fg) #[] #[], .func (.func fl) #[] #[], .func (.func ft) #[] #[], .func (.func fz) #[] #[]] 82)
  have hl3 : w2.heap.size < (w2.alloc (.cells #[.func (.func fg) #[] #[], .func (.func fl) #[] #[], .func (.func ft) #[] #[], .func (.func fz) #[] #[]] 82)).heap.size := by rw [size_alloc]; omega
  obtain ⟨n0, f0⟩ := form_new w2 0 (by decide)
  obtain ⟨n1, f1⟩ := form_new w2 1 (by decide)
  obtain ⟨n2, f2⟩ := form_new w2 2 (by decide)
  obtain ⟨n3, f3⟩ := form_new w2 3 (by decide)
  have hwd : w.heap.size < w2.heap.size := (Array.getElem?_eq_some_iff.1 HD2.out).1
  obtain ⟨w3, hw3⟩ : ∃ w3, w3 = w2.alloc (.cells #[.func (.func fg) #[] #[], .func (.func fl) #[] #[], .func (.func ft) #[] #[], .func (.func fz) #[] #[]] 82) := ⟨_, rfl⟩
  rw [← hw3] at hd3 hf3 hb3 hl3
  have c1 : (w2.alloc (.cells #[.func (.func fg) #[] #[], .func (.func fl) #[] #[], .func (.func ft) #[] #[], .func (.func fz) #[] #[]] 82)).cell? ⟨w.heap.size, 1, none⟩ = some (.int .i64 d.ver) := by rw [← hw3]; exact cell_of_blk hd3 1 (v := .int .i64 d.ver) rfl
  have HD3 := Lib.hid hd3
  have HF3 := Lib.hid hf3
  have HB3 := Lib.hid hb3
  clear hd3 hf3 hb3 HB2 HD2
  go_wp2_with fail
  clear n0 n1 n2 n3 f0 f1 f2 f3 c1
  rw [← hw3]
  clear hw3
  have c2 := cell_of_blk HD3.out 2 (v := .int .i64 d.exp) rfl
  have g0 := cell_of_blk HF3.out 0 (v := .func (.func fg) #[] #[]) rfl
  refine (HN.out w3).mono ?_
  rintro e w' ⟨rfl, rfl⟩
  have hR := HR.out
  unfold chkB at hR
  generalize decide (1 ≤ d.ver ∧ d.ver ≤ 65535) = vb at hR ⊢
  clear HN HR
  cases vb with
  | false =>
    have HR := Lib.hid hR
    clear hR
    go_wp2_with fail
    go_ret
    rw [HR.out]
    exact ⟨rfl, HB3.out⟩
  | true =>
  by_cases e0 : d.exp < 0
  · have HR : Hid (R = 1) := Lib.hid (by rw [hR, decide_eq_false (fun h => by omega)]; rfl)
    clear hR
    go_wp2_with fail
    go_ret
    rw [HR.out]
    exact ⟨rfl, HB3.out⟩
  by_cases e1 : 1099511627776 < d.exp
  · have HR : Hid (R = 1) := Lib.hid (by rw [hR, decide_eq_false (fun h => by omega)]; rfl)
    clear hR
    go_wp2_with fail
    go_ret
    rw [HR.out]
    exact ⟨rfl, HB3.out⟩
  have hR2 : R = chkE (g && emptyB d2) := by rw [hR, decide_eq_true ⟨by omega, by omega⟩]; rfl
  have HR2 := Lib.hid hR2
  have HGC := Lib.hid (HG.out w3 w.heap.size HB3.out HD3.out)
  clear hR hR2 HG
  cases g with
  | false =>
    have HR : Hid (R = 1) := Lib.hid HR2.out
    go_wp2_with fail
    refine HGC.out.mono ?_
    rintro e w4 ⟨rfl, hb4⟩
    have HB4 := Lib.hid (HB3.out.trans (hb4.mono HB3.out.size))
    clear hb4
    go_wp2_with fail
    go_ret
    rw [HR.out]
    exact ⟨rfl, HB4.out⟩
  | true =>
    go_wp2_with fail
    refine HGC.out.mono ?_
    rintro e w4 ⟨rfl, hb4⟩
    have HD4 := Lib.hid (HD3.out.later hb4)
    have hf4 := blk_later HF3.out hb4
    have HF4 := Lib.hid hf4
    have g3 := cell_of_blk hf4 3 (v := .func (.func fz) #[] #[]) rfl
    have HB4 := Lib.hid (HB3.out.trans (hb4.mono HB3.out.size))
    clear hb4 hf4 HGC c2 g0
    go_wp2_with fail
    refine (HZ.out w4 w.heap.size HB4.out HD4.out).mono ?_
    rintro e w5 ⟨rfl, hd5, hk5⟩
    have HB5 := Lib.hid (HB4.out.trans (hk5.toBelow HB4.out.size (fun i hi => by omega)))
    have HD5 := Lib.hid hd5
    have hE := empty_any d2 w5
    unfold docV at hE
    have HE := Lib.hid hE
    clear hd5 hk5 hE HB4 HD4 HF4 HF3 HD3 HB3 g3
    generalize emptyB d2 = em at HE HR2
    go_wp2_with (first | refine wpList_doc rfl _ rfl w.heap.size d2 rfl HD5.out ?_ | fail)
    refine HE.out.mono ?_
    rintro e w6 ⟨rfl, hb6⟩
    have HB6 := Lib.hid (HB5.out.trans (hb6.mono HB5.out.size))
    clear hb6
    cases em with
    | false =>
      have HR : Hid (R = 1) := Lib.hid HR2.out
      go_wp2_with fail
      go_ret
      rw [HR.out]
      exact ⟨rfl, HB6.out⟩
    | true =>
      have HR : Hid (R = 0) := Lib.hid HR2.out
      go_wp2_with fail
      go_ret
      rw [HR.out]
      exact ⟨rfl, HB6.out⟩
end Go.Proofs.YtmejjphliaiamaaGreatDoor
