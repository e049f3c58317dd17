/- msg: New, Err, Over, Part, stop. | msg: data's inner function. -/
import Derived.Test.YtkhppojlabajaaaZ37
import Derived.Test.YtkhppojlabajaaaZ04
import Derived.Test.YtkhppojlabajaaaZ08
import Derived.Test.YtkhppojlabajaaaZ12
import Derived.Deep.RegionLawGrows
/- msg: New, Err, Over, Part, stop. -/
namespace Go.Proofs.Ytkhppojlabajaaa
open Go.RowKit
set_option linter.unusedSimpArgs false
set_option linter.unusedVariables false

/-- A machine's cells. -/
def mCells (most op : Int) (v : Value) (cu : Nat) (over : Bool) (err : Int) : Array Value := #[.int .i64 most, .int .i64 op, v, .pointer (some ⟨cu, 0, none⟩), .bool over, .int .i64 err]
/-- The machine, its part's slice being v. -/
def IsMv (w : World) (base g cu : Nat) (c : Mc) (v : Value) : Prop :=
  Blk w g 90 (mCells c.most c.op v cu c.over c.err) ∧ w.ownsRow base 5 1 v c.part.size (u8s (sb c.part)) ∧ IsU w cu c.u
def IsM (w : World) (base g cu : Nat) (c : Mc) : Prop := ∃ v, IsMv w base g cu c v
/-- What the machine may write: itself, its checker, its part's row. -/
def MO (g cu : Nat) (v : Value) (k : Nat) : Prop := k = g ∨ k = cu ∨ v.ownBlock = some k

set_option maxHeartbeats 1600000 in
set_option maxRecDepth 100000 in
theorem m_stop (g : Nat) (most op : Int) (v : Value) (cu : Nat) (over : Bool) (err e : Int) (w : World) (hb : Blk w g 90 (mCells most op v cu over err)) :
    Calls Try.prog 48 #[.pointer (some ⟨g, 0, none⟩), .int .i64 e] w fun x w' => x = .returned (.tuple #[.agg #[.int .i64 0, .int .i64 0, .string ⟨#[]⟩], .bool false, .int .i64 e]) ∧
      Blk w' g 90 (mCells most 0 (.slice none 0 0) cu over e) ∧ Touch (At g) w w' := by
  have c1 := hb.cell 1
  have c2 := hb.cell 2
  have c5 := hb.cell 5
  have f1 := hb.frozen 1
  have f2 := hb.frozen 2
  have f5 := hb.frozen 5
  have hl := hb.lt
  simp [mCells] at c1 c2 c5
  have HB := Lib.hid hb
  clear hb
  go_enter Try.func48, Try.ntmps48
  go_wp2_with fail
  refine bodyPost_ret (v := .tuple #[.agg #[.int .i64 0, .int .i64 0, .string ⟨#[]⟩], .bool false, .int .i64 e]) (by simp [results, Try.results48, go_sem]) rfl ⟨rfl, ?_, ?_⟩
  · exact (((HB.out.set_ 5 (.int .i64 e)).set_ 1 (.int .i64 0)).set_ 2 (.slice none 0 0)).alloc _
  · exact (((((Touch.refl (At g) w).setAt 5 (.int .i64 e)).setAt 1 (.int .i64 0)).setAt 2 (.slice none 0 0))).alloc _
theorem m_err (g : Nat) (most op : Int) (v : Value) (cu : Nat) (over : Bool) (err : Int) (w : World) (hb : Blk w g 90 (mCells most op v cu over err)) :
    Calls Try.prog 32 #[.pointer (some ⟨g, 0, none⟩)] w fun x w' => x = .returned (.int .i64 err) ∧ w = w' := by
  have c5 := hb.cell 5
  simp [mCells] at c5
  go_enter Try.func32, Try.ntmps32
  go_wp2
  go_ret
  exact ⟨rfl, rfl⟩
theorem m_over (g : Nat) (most op : Int) (v : Value) (cu : Nat) (over : Bool) (err : Int) (w : World) (hb : Blk w g 90 (mCells most op v cu over err)) :
    Calls Try.prog 33 #[.pointer (some ⟨g, 0, none⟩)] w fun x w' => x = .returned (.bool over) ∧ w = w' := by
  have c5 := hb.cell 4
  simp [mCells] at c5
  go_enter Try.func33, Try.ntmps33
  go_wp2
  go_ret
  exact ⟨rfl, rfl⟩
theorem m_part (g : Nat) (most op : Int) (A : Option Addr) (n c : Nat) (cu : Nat) (over : Bool) (err : Int) (w : World) (hb : Blk w g 90 (mCells most op (.slice A n c) cu over err)) :
    Calls Try.prog 34 #[.pointer (some ⟨g, 0, none⟩)] w fun x w' => x = .returned (.int .i64 n) ∧ w = w' := by
  have c5 := hb.cell 2
  simp [mCells] at c5
  go_enter Try.func34, Try.ntmps34
  go_wp2
  go_ret
  exact ⟨rfl, rfl⟩
set_option maxHeartbeats 1600000 in
set_option maxRecDepth 100000 in
theorem m_new (most : Int) (h1 : 1 ≤ most) (h2 : most ≤ 1048576) (w : World) : Calls Try.prog 29 #[.int .i64 most] w fun x w' =>
    ∃ g cu, x = .returned (.tuple #[.pointer (some ⟨g, 0, none⟩), .int .i64 0]) ∧ w.heap.size ≤ g ∧ w.heap.size ≤ cu ∧ IsMv w' w.heap.size g cu (Mc.new most) (.slice none 0 0) ∧ Touch NoS w w' := by
  go_enter Try.func29, Try.ntmps29
  go_wp2_with fail
  refine (u_new _).mono ?_
  rintro e w1 ⟨cu, rfl, hcu, hu, ht⟩
  have HU := Lib.hid hu
  have HT := Lib.hid ht
  clear hu ht
  go_wp2_with fail
  go_ret2
  exact ⟨w1.heap.size, cu, rfl, HT.out.size, hcu, ⟨Blk.new w1 _ _, own_nil _ _ _ _, HU.out.alloc _⟩, HT.out.alloc _⟩
set_option maxHeartbeats 1600000 in
set_option maxRecDepth 100000 in
theorem m_new_no (most : Int) (h : most < 1 ∨ 1048576 < most) (w : World) : Calls Try.prog 29 #[.int .i64 most] w fun x w' => x = .returned (.tuple #[.pointer none, .int .i64 123]) ∧ w = w' := by
  rcases h with h | h
  · go_enter Try.func29, Try.ntmps29
    go_wp2
    go_ret2
    exact ⟨rfl, rfl⟩
  · have h0 : 1 ≤ most := by omega
    go_enter Try.func29, Try.ntmps29
    go_wp2
    go_ret2
    exact ⟨rfl, rfl⟩
section
variable {w w' w0 : World} {base g cu : Nat} {c : Mc} {v : Value}
theorem IsMv.no (h : IsMv w base g cu c v) (k : Touch NoS w w') : IsMv w' base g cu c v :=
  ⟨h.1.touch k (fun h => h), own_no h.2.1 k, h.2.2.touch k (fun h => h)⟩
theorem IsMv.lt (h : IsMv w base g cu c v) : g < w.heap.size ∧ cu < w.heap.size := ⟨h.1.lt, h.2.2.lt⟩
theorem IsMv.row_lt (h : IsMv w base g cu c v) {b : Nat} (hb : v.ownBlock = some b) : base ≤ b ∧ b < w.heap.size := by
  obtain ⟨cs, hc⟩ := own_type h.2.1 hb
  exact ⟨own_base h.2.1 hb, hc.lt⟩
theorem IsMv.touch {S : Nat → Prop} (h : IsMv w base g cu c v) (k : Touch S w w') (h1 : ¬ S g) (h2 : ¬ S cu) (h3 : ∀ b, v.ownBlock = some b → ¬ S b) : IsMv w' base g cu c v :=
  ⟨h.1.touch k h1, own_touch h.2.1 k h3, h.2.2.touch k h2⟩
theorem IsMv.lower {base' : Nat} (h : IsMv w base g cu c v) (hb : base' ≤ base) : IsMv w base' g cu c v := ⟨h.1, own_lower h.2.1 hb, h.2.2⟩
theorem IsM.no (h : IsM w base g cu c) (k : Touch NoS w w') : IsM w' base g cu c := by
  obtain ⟨v, h⟩ := h
  exact ⟨v, h.no k⟩
/-- Rows and blocks of other types are as before. -/
theorem MO_own {b0 n size : Nat} {e : TypeId} {u : Value} {xs : List Value} (h : w.ownsRow b0 e size u n xs) (hs : IsMv w base g cu c v) (k : Touch (MO g cu v) w w') (h1 : e ≠ 5) (h2 : e ≠ 90) (h3 : e ≠ 108) : w'.ownsRow b0 e size u n xs :=
  own_touch h k fun b hb hS => by
    obtain ⟨hbs, ho, hu⟩ := hs
    rcases hS with rfl | rfl | hv
    · exact own_ne h hbs h2 hb
    · exact own_ne h hu h3 hb
    · obtain ⟨cs, hc⟩ := own_type ho hv
      exact own_ne h hc h1 hb
theorem MO_blk {b : Nat} {t : TypeId} {cs : Array Value} (h : Blk w b t cs) (hs : IsMv w base g cu c v) (k : Touch (MO g cu v) w w') (h1 : t ≠ 5) (h2 : b ≠ g) (h3 : b ≠ cu) : Blk w' b t cs :=
  h.touch k fun hS => by
    rcases hS with hS | hS | hv
    · exact h2 hS
    · exact h3 hS
    · obtain ⟨cs', hc⟩ := own_type hs.2.1 hv
      exact h.ne_ hc h1 rfl
theorem MO_old (h : Touch NoS w0 w) (hs : IsMv w base g cu c v) (k : Touch (MO g cu v) w w') (hb : w0.heap.size ≤ base) (hg : w0.heap.size ≤ g) (hcu : w0.heap.size ≤ cu) : Touch NoS w0 w' :=
  h.then_new k fun i hS => by
    rcases hS with rfl | rfl | hv
    · exact .inl hg
    · exact .inl hcu
    · have := own_base hs.2.1 hv
      exact .inl (by omega)
/-- Two machines whose rows are apart: one's act leaves the other one be. -/
theorem MO_other {base' g' cu' : Nat} {c' : Mc} {v' : Value} (hs : IsMv w base g cu c v) (h' : IsMv w base' g' cu' c' v') (k : Touch (MO g cu v) w w') (hg : g ≠ g') (hcu : cu ≠ cu') (hv : ∀ b, v'.ownBlock = some b → v.ownBlock ≠ some b) : IsMv w' base' g' cu' c' v' := by
  refine h'.touch k ?_ ?_ ?_
  · rintro (h | h | h)
    · exact hg h.symm
    · exact h'.1.ne_ hs.2.2 (by decide) h
    · obtain ⟨cs, hc⟩ := own_type hs.2.1 h
      exact h'.1.ne_ hc (by decide) rfl
  · rintro (h | h | h)
    · exact (Blk.ne_ hs.1 h'.2.2 (by decide)) h.symm
    · exact hcu h.symm
    · obtain ⟨cs, hc⟩ := own_type hs.2.1 h
      exact (Blk.ne_ h'.2.2 hc (by decide)) rfl
  · intro b hb hS
    rcases hS with rfl | rfl | h
    · exact own_ne h'.2.1 hs.1 (by decide) hb
    · exact own_ne h'.2.1 hs.2.2 (by decide) hb
    · exact hv b hb h
end
end Go.Proofs.Ytkhppojlabajaaa
/- msg: data's inner function. -/
namespace Go.Proofs.Ytkhppojlabajaaa
open Go.RowKit
set_option linter.unusedSimpArgs false
set_option linter.unusedVariables false

def badText (u : Uc) (fin : Bool) : Bool := u.bad || (fin && !u.whole)
set_option maxHeartbeats 3200000 in
set_option maxRecDepth 100000 in
theorem m_wrong (Bm Bf g cu : Nat) (most op : Int) (v : Value) (over : Bool) (err : Int) (u : Uc) (f : Fr) (w : World) (hbm : Blk w Bm 53 #[.pointer (some ⟨g, 0, none⟩)]) (hbf : Blk w Bf 44 f.cs)
    (hb : Blk w g 90 (mCells most op v cu over err)) (hu : IsU w cu u) (hok : u.ok) (hz : f.data.size ≤ 100000000) (hc : u.count ≤ 100000000) :
    Calls Try.prog 63 #[.pointer (some ⟨Bm, 0, none⟩), .pointer (some ⟨Bf, 0, none⟩)] w fun x w' => x = .returned (.bool (badText (ufeed u (sb f.data)).1 f.fin)) ∧ IsU w' cu (ufeed u (sb f.data)).1 ∧ Touch (At cu) w w' := by
  have a0 := hbm.cell 0
  have b0 := hbf.cell 0
  have b7 := hbf.cell 7
  have c3 := hb.cell 3
  have l1 := hbm.lt
  have l2 := hbf.lt
  have l3 := hb.lt
  have l4 : cu < w.heap.size := hu.lt
  simp [mCells, Fr.cs] at a0 b0 b7 c3
  obtain ⟨w1, cp, hconv, ht, hrd, hcp, hcm, h23⟩ := conv_ex w.drew f.data (by unfold maxLen; omega)
  obtain ⟨u1, hu1⟩ : ∃ u1, u1 = (ufeed u (sb f.data)).1 := ⟨_, rfl⟩
  have HTT := Lib.hid ((Touch.refl NoS w).drew.trans ht)
  have HFD : Hid (Calls Try.prog 64 #[.pointer (some ⟨cu, 0, none⟩), .slice (some ⟨w.heap.size, 0, none⟩) f.data.size cp] w1 fun e w' => e = .returned (.int .i64 (ufeed u (sb f.data)).2) ∧ IsU w' cu u1 ∧ Touch (At cu) w1 w') := by
    have h := u_feed cu u (some ⟨w.heap.size, 0, none⟩) (sb f.data) cp w1 (Blk.touch (S := NoS) (w := w) hu HTT.out (fun h => h)) hok hrd (sb_in _) (fun a ha => by injection ha with ha; subst ha; show w.heap.size ≠ cu; omega) (by rw [sb_length]; omega)
    rw [sb_length, ← hu1] at h
    exact h
  have hbm1 := Lib.hid (hbm.touch HTT.out (fun h => h))
  have hbf1 := Lib.hid (hbf.touch HTT.out (fun h => h))
  have hb1 := Lib.hid (hb.touch HTT.out (fun h => h))
  have a0' := hbm1.out.cell 0
  have b0' := hbf1.out.cell 0
  have b7' := hbf1.out.cell 7
  have c3' := hb1.out.cell 3
  simp [mCells, Fr.cs] at a0' b0' b7' c3'
  have HM1 : Hid (53 ≠ 108) := by show _ ≠ _; decide
  have hne1 : Bm ≠ cu := hbm.ne_ hu (by decide)
  have hne2 : Bf ≠ cu := hbf.ne_ hu (by decide)
  have hne3 : g ≠ cu := hb.ne_ hu (by decide)
  obtain ⟨d, hd⟩ : ∃ d, d = f.data := ⟨_, rfl⟩
  obtain ⟨fin, hfin⟩ : ∃ d, d = f.fin := ⟨_, rfl⟩
  rw [← hu1, ← hfin]
  rw [← hd] at b7 b7' hconv HFD hu1 hz
  rw [← hfin] at b0 b0'
  obtain ⟨R, hRR⟩ : ∃ R, R = badText u1 fin := ⟨_, rfl⟩
  rw [← hRR]
  have HRR := Lib.hid hRR
  clear hRR
  have HHU := Lib.hid hu
  have HB := Lib.hid hb
  have HBM := Lib.hid hbm
  have HBF := Lib.hid hbf
  have HFIN := Lib.hid hfin
  clear hbm hbf hb hu hok hc ht hrd hcp hcm h23 hu1 hd hfin
  go_enter Try.func63, Try.ntmps63
  go_upto_region 1 with (fail)
  go_cut [] (fun wx => IsU wx cu u1 ∧ Touch (At cu) w wx)
  case first =>
    go_region_with ((go_at_call 64; refine HFD.out.mono ?_; rintro e w2 ⟨rfl, hu2, ht2⟩; have HU2 := Lib.hid hu2; have HT2 := Lib.hid ht2; clear hu2 ht2))
    all_goals
      go_wp2_with fail
      go_meet
      exact ⟨HU2.out, HTT.out.of_no.trans HT2.out⟩
  case rest =>
  obtain ⟨hu2, ht2⟩ := hcut
  have HB2 := Lib.hid (HB.out.touch ht2 hne3)
  have HBM2 := Lib.hid (HBM.out.touch ht2 hne1)
  have HBF2 := Lib.hid (HBF.out.touch ht2 hne2)
  have HU2 := Lib.hid hu2
  have HT2 := Lib.hid ht2
  clear hu2 ht2 a0 b0 b7 c3 a0' b0' b7' c3' hbm1 hbf1 hb1 hconv HFD
  have a0 := HBM2.out.cell 0
  have b0 := HBF2.out.cell 0
  have c3 := HB2.out.cell 3
  simp [mCells, Fr.cs] at a0 b0 c3
  rw [← HFIN.out] at b0
  obtain ⟨bd, hbd⟩ : ∃ b, b = u1.bad := ⟨_, rfl⟩
  obtain ⟨wh, hwh⟩ : ∃ b, b = u1.whole := ⟨_, rfl⟩
  have HRI := Lib.hid (u_right cu u1 wc HU2.out)
  have HWH := Lib.hid (u_whole cu u1 wc HU2.out)
  rw [← hbd] at HRI
  rw [← hwh] at HWH
  have HX : Hid (badText u1 fin = (bd || (fin && !wh))) := by show _ = _; rw [hbd, hwh]; rfl
  clear hbd hwh
  cases bd
  · cases fin
    · go_wp2_with fail
      refine HRI.out.mono ?_
      rintro e w3 ⟨rfl, rfl⟩
      go_wp2
      go_ret
      exact ⟨by rw [HRR.out, HX.out]; rfl, HU2.out, HT2.out⟩
    · go_wp2_with fail
      refine HRI.out.mono ?_
      rintro e w3 ⟨rfl, rfl⟩
      go_wp2_with fail
      refine HWH.out.mono ?_
      rintro e w3 ⟨rfl, rfl⟩
      cases wh
      all_goals
        go_wp2
        go_ret
        exact ⟨by rw [HRR.out, HX.out]; rfl, HU2.out, HT2.out⟩
  · go_wp2_with fail
    refine HRI.out.mono ?_
    rintro e w3 ⟨rfl, rfl⟩
    go_wp2
    go_ret
    exact ⟨by rw [HRR.out, HX.out]; rfl, HU2.out, HT2.out⟩
end Go.Proofs.Ytkhppojlabajaaa
