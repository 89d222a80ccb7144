import Derived.Test.YtmejjphliaiamaaGreatDoorMeG
set_option linter.unusedVariables false
set_option linter.unusedSimpArgs false
namespace Go.Proofs.YtmejjphliaiamaaGreatDoor
open Go Go.RowKit Go.Lib

/-! ### a timestamp's document -/
def ts1 (r : RS) : Int × RS := rNum r 2
def ts2 (r : RS) : ByteArray × RS := rRaw (ts1 r).2 32
theorem enter_tg : Ent 104 := fun args w => by kernel_rfl
theorem enter_tl : Ent 105 := fun args w => by kernel_rfl
theorem enter_tt : Ent 106 := fun args w => by kernel_rfl
theorem enter_tz : Ent 107 := fun args w => by kernel_rfl
set_option maxRecDepth 100000 in
set_option maxHeartbeats 1000000 in
theorem taketst_any (d0 : DV) (r3 : RS) (w : World) (hs : r3.1.size ≤ 1000000000) : TakeC 106 d0 r3 (ts2 r3).2 (fun d _ => d = { d0 with of := (ts1 r3).1, hash := (ts2 r3).1 }) w := by
  intro W db rb hB hd hr h1 h2
  have hz : (ts1 r3).2.1.size ≤ r3.1.size := (rRaw_size r3 2).2
  have e1 : rNum r3 2 = ts1 r3 := rfl
  have e2 : rRaw (ts1 r3).2 32 = ts2 r3 := rfl
  have HC := r2_any rb r3 W (by omega) hr
  rw [e1] at HC
  generalize ts2 r3 = B at *
  generalize ts1 r3 = A at *
  have HC1 := Lib.hid HC
  have HD := Lib.hid hd
  have HE := Lib.hid e2
  clear HC hB hd hr e1 e2
  go_enter Tryz.func106, Tryz.ntmps106
  go_wp2_with fail
  refine HC1.out.mono ?_
  rintro e w1 ⟨rfl, k1⟩
  have HC2 := rhash_any rb A.2 w1 (by omega) k1.1
  rw [HE.out] at HC2
  have HK1 := Lib.hid k1
  have HC3 := Lib.hid HC2
  clear k1 HC2 HC1
  go_wp2_with fail
  refine HC3.out.mono ?_
  rintro e w2 ⟨rfl, k2⟩
  have hne : ¬ db = rb := by omega
  have hd2 : DocAt w2 db d0 := blk_kp (blk_kp HD.out HK1.out.2 hne) k2.2 hne
  have c19 := cell_of_blk hd2 19 (v := .int .i64 d0.of) rfl
  have c20 := cell_of_blk hd2 20 (v := .string d0.hash) rfl
  have f19 := free_of_blk hd2 19
  have f20 := free_of_blk hd2 20
  have hs2 : DocAt ((w2.setCell ⟨db, 19, none⟩ (.int .i64 A.1)).setCell ⟨db, 20, none⟩ (.string B.1)) db { d0 with of := A.1, hash := B.1 } := blk_set (blk_set hd2 _) _
  have hk2 : Kp (fun k => k = db) w2 ((w2.setCell ⟨db, 19, none⟩ (.int .i64 A.1)).setCell ⟨db, 20, none⟩ (.string B.1)) := ((Kp.refl (fun k => k = db) w2).setCell (p := ⟨db, 19, none⟩) (.inl rfl) _).setCell (p := ⟨db, 20, none⟩) (.inl rfl) _
  have hr2 := blk_kp k2.1 hk2 (Ne.symm hne)
  have HS := Lib.hid hs2
  have HR := Lib.hid hr2
  have HK : Hid (Kp (fun k => k = db ∨ k = rb) W ((w2.setCell ⟨db, 19, none⟩ (.int .i64 A.1)).setCell ⟨db, 20, none⟩ (.string B.1))) := Lib.hid (((HK1.out.2.trans k2.2).mono (fun i hi => .inr hi)).trans (hk2.mono (fun i hi => .inl hi)))
  clear hd2 hs2 hk2 hr2 k2 HK1 HC3 HD
  go_wp2_with fail
  go_end0
  exact ⟨rfl, _, rfl, HS.out, HR.out, HK.out⟩
def chk4 (d : DV) : Int := chkE (chkB d { d with of := 0, hash := ⟨#[]⟩ } (tsGood d.of d.hash))
theorem check4 (d : DV) (w : World) (hk : d.kind = 4) : Calls Tryz.prog 10 #[docV d] w fun e w' => e = .returned (.int .i64 (chk4 d)) ∧ Below w.heap.size w w' :=
  check_form 104 105 106 107 d _ _ w enter_tg enter_tz (by rw [hk]; exact forms4)
    (fun W b _ h => (goodts_any b d W h).mono fun e w' ⟨h1, h2⟩ => ⟨h1, h2 ▸ Below.refl _ _⟩) (fun W b _ h => zero4_any b d W h)
def lay4 (d : DV) (q : WS) : WS := pHash (wNum q d.of 2) d.hash
theorem encode4 (d : DV) (w : World) (hk : d.kind = 4) (hv : I64 d.ver) (hx : I64 d.exp) (ho : I64 d.of) (hh : d.hash.size ≤ 1000000000) :
    Calls Tryz.prog 9 #[docV d] w fun e w' => e = .returned (.tuple #[.string (encP d (chk4 d) (lay4 d)).1, .int .i64 (encP d (chk4 d) (lay4 d)).2]) ∧ Below w.heap.size w w' :=
  encode_form 104 105 106 107 d (chk4 d) (lay4 d) w enter_tl (by rw [hk]; exact forms4) (fun W _ => check4 d W hk) (layts_any d w ho hh) (by rw [hk]; exact ⟨by decide, by decide⟩) hv hx
def dts (s : ByteArray) : DV := { dHead s with of := (ts1 (rC s).2).1, hash := (ts2 (rC s).2).1 }
theorem decode4 (s : ByteArray) (w : World) (hs : s.size ≤ 1000000000) (hk : (rA s).1 = 4) :
    Calls Tryz.prog 11 #[.string s] w (DecPost (decE (ts2 (rC s).2).2 (chk4 (dts s))) (fun d _ => d = dts s) w) :=
  decode_form 104 105 106 107 s (ts2 (rC s).2).2 (chk4 (dts s)) _ w hs
    (by have h1 := rC_size s; have h2 : (ts1 (rC s).2).2.1.size ≤ (rC s).2.1.size := (rRaw_size _ 2).2; have h3 : (ts2 (rC s).2).2.1.size ≤ (ts1 (rC s).2).2.1.size := (rRaw_size _ 32).2; omega)
    enter_tt (by rw [hk]; exact forms4) (taketst_any (dHead s) (rC s).2 w (by have h1 := rC_size s; omega)) (fun d W W' h _ _ => h)
    (fun d W _ h => by rw [h]; exact check4 (dts s) W hk)
end Go.Proofs.YtmejjphliaiamaaGreatDoor
