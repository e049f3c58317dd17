/- msg: data's inner function. -/
import Derived.Test.YtkhppojlabajaaaGb
import Derived.Test.YtkhppojlabajaaaFc
import Derived.Deep.RegionLawGrows
namespace Go.Proofs.Ytkhppojlabajaaa
open Go.RowKit
set_option linter.unusedSimpArgs false
set_option linter.unusedVariables false

def badText (u : Uc) (fin : Bool) : Bool := u.bad || (fin && !u.whole)
set_option maxHeartbeats 3200000 in
set_option maxRecDepth 100000 in
theorem m_wrong (Bm Bf g cu : Nat) (most op : Int) (v : Value) (over : Bool) (err : Int) (u : Uc) (f : Fr) (w : World) (hbm : Blk w Bm 53 #[.pointer (some ⟨g, 0, none⟩)]) (hbf : Blk w Bf 44 f.cs)
    (hb : Blk w g 90 (mCells most op v cu over err)) (hu : IsU w cu u) (hok : u.ok) (hz : f.data.size ≤ 100000000) (hc : u.count ≤ 100000000) :
    Calls Try.prog 63 #[.pointer (some ⟨Bm, 0, none⟩), .pointer (some ⟨Bf, 0, none⟩)] w fun x w' => x = .returned (.bool (badText (ufeed u (sb f.data)).1 f.fin)) ∧ IsU w' cu (ufeed u (sb f.data)).1 ∧ Touch (At cu) w w' := by
  have a0 := hbm.cell 0
  have b0 := hbf.cell 0
  have b7 := hbf.cell 7
  have c3 := hb.cell 3
  have l1 := hbm.lt
  have l2 := hbf.lt
  have l3 := hb.lt
  have l4 : cu < w.heap.size := hu.lt
  simp [mCells, Fr.cs] at a0 b0 b7 c3
  obtain ⟨w1, cp, hconv, ht, hrd, hcp, hcm, h23⟩ := conv_ex w.drew f.data (by unfold maxLen; omega)
  obtain ⟨u1, hu1⟩ : ∃ u1, u1 = (ufeed u (sb f.data)).1 := ⟨_, rfl⟩
  have HTT := Lib.hid ((Touch.refl NoS w).drew.trans ht)
  have HFD : Hid (Calls Try.prog 64 #[.pointer (some ⟨cu, 0, none⟩), .slice (some ⟨w.heap.size, 0, none⟩) f.data.size cp] w1 fun e w' => e = .returned (.int .i64 (ufeed u (sb f.data)).2) ∧ IsU w' cu u1 ∧ Touch (At cu) w1 w') := by
    have h := u_feed cu u (some ⟨w.heap.size, 0, none⟩) (sb f.data) cp w1 (Blk.touch (S := NoS) (w := w) hu HTT.out (fun h => h)) hok hrd (sb_in _) (fun a ha => by injection ha with ha; subst ha; show w.heap.size ≠ cu; omega) (by rw [sb_length]; omega)
    rw [sb_length, ← hu1] at h
    exact h
  have hbm1 := Lib.hid (hbm.touch HTT.out (fun h => h))
  have hbf1 := Lib.hid (hbf.touch HTT.out (fun h => h))
  have hb1 := Lib.hid (hb.touch HTT.out (fun h => h))
  have a0' := hbm1.out.cell 0
  have b0' := hbf1.out.cell 0
  have b7' := hbf1.out.cell 7
  have c3' := hb1.out.cell 3
  simp [mCells, Fr.cs] at a0' b0' b7' c3'
  have HM1 : Hid (53 ≠ 108) := by show _ ≠ _; decide
  have hne1 : Bm ≠ cu := hbm.ne_ hu (by decide)
  have hne2 : Bf ≠ cu := hbf.ne_ hu (by decide)
  have hne3 : g ≠ cu := hb.ne_ hu (by decide)
  obtain ⟨d, hd⟩ : ∃ d, d = f.data := ⟨_, rfl⟩
  obtain ⟨fin, hfin⟩ : ∃ d, d = f.fin := ⟨_, rfl⟩
  rw [← hu1, ← hfin]
  rw [← hd] at b7 b7' hconv HFD hu1 hz
  rw [← hfin] at b0 b0'
  obtain ⟨R, hRR⟩ : ∃ R, R = badText u1 fin := ⟨_, rfl⟩
  rw [← hRR]
  have HRR := Lib.hid hRR
  clear hRR
  have HHU := Lib.hid hu
  have HB := Lib.hid hb
  have HBM := Lib.hid hbm
  have HBF := Lib.hid hbf
  have HFIN := Lib.hid hfin
  clear hbm hbf hb hu hok hc ht hrd hcp hcm h23 hu1 hd hfin
  go_enter Try.func63, Try.ntmps63
  go_upto_region 1 with (fail)
  go_cut [] (fun wx => IsU wx cu u1 ∧ Touch (At cu) w wx)
  case first =>
    go_region_with ((go_at_call 64; refine HFD.out.mono ?_; rintro e w2 ⟨rfl, hu2, ht2⟩; have HU2 := Lib.hid hu2; have HT2 := Lib.hid ht2; clear hu2 ht2))
    all_goals
      go_wp2_with fail
      go_meet
      exact ⟨HU2.out, HTT.out.of_no.trans HT2.out⟩
  case rest =>
  obtain ⟨hu2, ht2⟩ := hcut
  have HB2 := Lib.hid (HB.out.touch ht2 hne3)
  have HBM2 := Lib.hid (HBM.out.touch ht2 hne1)
  have HBF2 := Lib.hid (HBF.out.touch ht2 hne2)
  have HU2 := Lib.hid hu2
  have HT2 := Lib.hid ht2
  clear hu2 ht2 a0 b0 b7 c3 a0' b0' b7' c3' hbm1 hbf1 hb1 hconv HFD
  have a0 := HBM2.out.cell 0
  have b0 := HBF2.out.cell 0
  have c3 := HB2.out.cell 3
  simp [mCells, Fr.cs] at a0 b0 c3
  rw [← HFIN.out] at b0
  obtain ⟨bd, hbd⟩ : ∃ b, b = u1.bad := ⟨_, rfl⟩
  obtain ⟨wh, hwh⟩ : ∃ b, b = u1.whole := ⟨_, rfl⟩
  have HRI := Lib.hid (u_right cu u1 wc HU2.out)
  have HWH := Lib.hid (u_whole cu u1 wc HU2.out)
  rw [← hbd] at HRI
  rw [← hwh] at HWH
  have HX : Hid (badText u1 fin = (bd || (fin && !wh))) := by show _ = _; rw [hbd, hwh]; rfl
  clear hbd hwh
  cases bd
  · cases fin
    · go_wp2_with fail
      refine HRI.out.mono ?_
      rintro e w3 ⟨rfl, rfl⟩
      go_wp2
      go_ret
      exact ⟨by rw [HRR.out, HX.out]; rfl, HU2.out, HT2.out⟩
    · go_wp2_with fail
      refine HRI.out.mono ?_
      rintro e w3 ⟨rfl, rfl⟩
      go_wp2_with fail
      refine HWH.out.mono ?_
      rintro e w3 ⟨rfl, rfl⟩
      cases wh
      all_goals
        go_wp2
        go_ret
        exact ⟨by rw [HRR.out, HX.out]; rfl, HU2.out, HT2.out⟩
  · go_wp2_with fail
    refine HRI.out.mono ?_
    rintro e w3 ⟨rfl, rfl⟩
    go_wp2
    go_ret
    exact ⟨by rw [HRR.out, HX.out]; rfl, HU2.out, HT2.out⟩
end Go.Proofs.Ytkhppojlabajaaa
