/- msg: data's inner function. | msg: end. -/
import Derived.Test.YtpadlcllcmodaaaY26
import Derived.Test.YtpadlcllcmodaaaY09
import Derived.Test.YtpadlcllcmodaaaY11
import Derived.Deep.RegionLawGrows
/- msg: data's inner function. -/
namespace Go.Proofs.Ytpadlcllcmodaaa
open Go.RowKit
set_option linter.unusedSimpArgs false
set_option linter.unusedVariables false

def badText (u : Uc) (fin : Bool) : Bool := u.bad || (fin && !u.whole)
set_option maxHeartbeats 3200000 in
set_option maxRecDepth 100000 in
theorem m_wrong (Bm Bf g cu : Nat) (most op : Int) (v : Value) (over : Bool) (err : Int) (u : Uc) (f : Fr) (w : World) (hbm : Blk w Bm 66 #[.pointer (some ⟨g, 0, none⟩)]) (hbf : Blk w Bf 59 f.cs)
    (hb : Blk w g 97 (mCells most op v cu over err)) (hu : IsU w cu u) (hok : u.ok) (hz : f.data.size ≤ 100000000) (hc : u.count ≤ 100000000) :
    Calls Try.prog 90 #[.pointer (some ⟨Bm, 0, none⟩), .pointer (some ⟨Bf, 0, none⟩)] w fun x w' => x = .returned (.bool (badText (ufeed u (sb f.data)).1 f.fin)) ∧ IsU w' cu (ufeed u (sb f.data)).1 ∧ Touch (At cu) w w' := by
  have a0 := hbm.cell 0
  have b0 := hbf.cell 0
  have b7 := hbf.cell 7
  have c3 := hb.cell 3
  have l1 := hbm.lt
  have l2 := hbf.lt
  have l3 := hb.lt
  have l4 : cu < w.heap.size := hu.lt
  simp [mCells, Fr.cs] at a0 b0 b7 c3
  obtain ⟨w1, cp, hconv, ht, hrd, hcp, hcm, h23⟩ := conv_ex w.drew f.data (by unfold maxLen; omega)
  obtain ⟨u1, hu1⟩ : ∃ u1, u1 = (ufeed u (sb f.data)).1 := ⟨_, rfl⟩
  have HTT := Lib.hid ((Touch.refl NoS w).drew.trans ht)
  have HFD : Hid (Calls Try.prog 91 #[.pointer (some ⟨cu, 0, none⟩), .slice (some ⟨w.heap.size, 0, none⟩) f.data.size cp] w1 fun e w' => e = .returned (.int .i64 (ufeed u (sb f.data)).2) ∧ IsU w' cu u1 ∧ Touch (At cu) w1 w') := by
    have h := u_feed cu u (some ⟨w.heap.size, 0, none⟩) (sb f.data) cp w1 (Blk.touch (S := NoS) (w := w) hu HTT.out (fun h => h)) hok hrd (sb_in _) (fun a ha => by injection ha with ha; subst ha; show w.heap.size ≠ cu; omega) (by rw [sb_length]; omega)
    rw [sb_length, ← hu1] at h
    exact h
  have hbm1 := Lib.hid (hbm.touch HTT.out (fun h => h))
  have hbf1 := Lib.hid (hbf.touch HTT.out (fun h => h))
  have hb1 := Lib.hid (hb.touch HTT.out (fun h => h))
  have a0' := hbm1.out.cell 0
  have b0' := hbf1.out.cell 0
  have b7' := hbf1.out.cell 7
  have c3' := hb1.out.cell 3
  simp [mCells, Fr.cs] at a0' b0' b7' c3'
  have HM1 : Hid (66 ≠ 119) := by show _ ≠ _; decide
  have hne1 : Bm ≠ cu := hbm.ne_ hu (by decide)
  have hne2 : Bf ≠ cu := hbf.ne_ hu (by decide)
  have hne3 : g ≠ cu := hb.ne_ hu (by decide)
  obtain ⟨d, hd⟩ : ∃ d, d = f.data := ⟨_, rfl⟩
  obtain ⟨fin, hfin⟩ : ∃ d, d = f.fin := ⟨_, rfl⟩
  rw [← hu1, ← hfin]
  rw [← hd] at b7 b7' hconv HFD hu1 hz
  rw [← hfin] at b0 b0'
  obtain ⟨R, hRR⟩ : ∃ R, R = badText u1 fin := ⟨_, rfl⟩
  rw [← hRR]
  have HRR := Lib.hid hRR
  clear hRR
  have HHU := Lib.hid hu
  have HB := Lib.hid hb
  have HBM := Lib.hid hbm
  have HBF := Lib.hid hbf
  have HFIN := Lib.hid hfin
  clear hbm hbf hb hu hok hc ht hrd hcp hcm h23 hu1 hd hfin
  go_enter Try.func90, Try.ntmps90
  go_upto_region 1 with (fail)
  go_cut [] (fun wx => IsU wx cu u1 ∧ Touch (At cu) w wx)
  case first =>
    go_region_with ((go_at_call 91; refine HFD.out.mono ?_; rintro e w2 ⟨rfl, hu2, ht2⟩; have HU2 := Lib.hid hu2; have HT2 := Lib.hid ht2; clear hu2 ht2))
    all_goals
      go_wp2_with fail
      go_meet
      exact ⟨HU2.out, HTT.out.of_no.trans HT2.out⟩
  case rest =>
  obtain ⟨hu2, ht2⟩ := hcut
  have HB2 := Lib.hid (HB.out.touch ht2 hne3)
  have HBM2 := Lib.hid (HBM.out.touch ht2 hne1)
  have HBF2 := Lib.hid (HBF.out.touch ht2 hne2)
  have HU2 := Lib.hid hu2
  have HT2 := Lib.hid ht2
  clear hu2 ht2 a0 b0 b7 c3 a0' b0' b7' c3' hbm1 hbf1 hb1 hconv HFD
  have a0 := HBM2.out.cell 0
  have b0 := HBF2.out.cell 0
  have c3 := HB2.out.cell 3
  simp [mCells, Fr.cs] at a0 b0 c3
  rw [← HFIN.out] at b0
  obtain ⟨bd, hbd⟩ : ∃ b, b = u1.bad := ⟨_, rfl⟩
  obtain ⟨wh, hwh⟩ : ∃ b, b = u1.whole := ⟨_, rfl⟩
  have HRI := Lib.hid (u_right cu u1 wc HU2.out)
  have HWH := Lib.hid (u_whole cu u1 wc HU2.out)
  rw [← hbd] at HRI
  rw [← hwh] at HWH
  have HX : Hid (badText u1 fin = (bd || (fin && !wh))) := by show _ = _; rw [hbd, hwh]; rfl
  clear hbd hwh
  cases bd
  · cases fin
    · go_wp2_with fail
      refine HRI.out.mono ?_
      rintro e w3 ⟨rfl, rfl⟩
      go_wp2
      go_ret
      exact ⟨by rw [HRR.out, HX.out]; rfl, HU2.out, HT2.out⟩
    · go_wp2_with fail
      refine HRI.out.mono ?_
      rintro e w3 ⟨rfl, rfl⟩
      go_wp2_with fail
      refine HWH.out.mono ?_
      rintro e w3 ⟨rfl, rfl⟩
      cases wh
      all_goals
        go_wp2
        go_ret
        exact ⟨by rw [HRR.out, HX.out]; rfl, HU2.out, HT2.out⟩
  · go_wp2_with fail
    refine HRI.out.mono ?_
    rintro e w3 ⟨rfl, rfl⟩
    go_wp2
    go_ret
    exact ⟨by rw [HRR.out, HX.out]; rfl, HU2.out, HT2.out⟩
end Go.Proofs.Ytpadlcllcmodaaa
/- msg: end. -/
namespace Go.Proofs.Ytpadlcllcmodaaa
open Go.RowKit
set_option linter.unusedSimpArgs false
set_option linter.unusedVariables false

theorem ev_info : (Try.prog.info? 47).map (·.size) = some 3 := by kernel_rfl
theorem ev_one (a b : Int) (s : ByteArray) : (#[.int .i64 a, .int .i64 b, .string s] : Array Value).all (·.oneCell') = true := by simp [Value.oneCell']
theorem ev_load {w : World} {g : Nat} {t : TypeId} {cs : Array Value} (h : Blk w g t cs) (hs : cs.size = 3) : (loadVar 47 ⟨g, 0, none⟩).run Try.prog w = .ok (.agg cs) w :=
  run_loadVar_row w g t 47 cs (0, 0) _ h Try.underlying47 rfl (by rw [hs]; exact ev_info)
abbrev evAgg (e : Ev) : Array Value := #[.int .i64 e.op, .int .i64 e.code, .string e.data]
theorem end_results (tmps : Array Value) (w : World) (x : Ev) (g : Nat) (b : Bool) (e : Int) (h4 : tmps.getD 4 undef = .pointer (some ⟨g, 0, none⟩)) (h5 : tmps.getD 5 undef = .bool b) (h6 : tmps.getD 6 undef = .int .i64 e)
    (hb : Blk w g 47 (evAgg x)) : (results Try.f67 tmps).run Try.prog w = .ok (.tuple #[.agg (evAgg x), .bool b, .int .i64 e]) w := by
  have hld := ev_load hb rfl
  obtain ⟨a, b, c⟩ := x
  have c0 := hb.cell 0
  have c1 := hb.cell 1
  have c2 := hb.cell 2
  simp only [Array.getD_eq_getD_getElem?] at h4 h5 h6
  simp [evAgg] at c0 c1 c2
  simp [results, Try.results67, go_sem, h4, h5, h6, c0, c1, c2, hld]

set_option maxHeartbeats 3200000 in
set_option maxRecDepth 100000 in
theorem m_end (base g cu : Nat) (c : Mc) (f : Fr) (hz : f.data.size ≤ maxLen) (w : World) (v : Value) (h : IsMv w base g cu c v) (hbs : base ≤ w.heap.size) :
    Calls Try.prog 67 #[.pointer (some ⟨g, 0, none⟩), .agg f.cs] w fun x w' => x = .returned (.tuple #[.agg (evAgg (mend c f).2.1), .bool (mend c f).2.2.1, .int .i64 (mend c f).2.2.2]) ∧ (∃ v1, IsMv w' base g cu (mend c f).1 v1 ∧ Loc w v v1) ∧ Touch (MO g cu v) w w' := by
  obtain ⟨hb, ho, hu⟩ := h
  obtain ⟨code, words, er, hG⟩ : ∃ code words er, cget f.data = (code, words, er) := ⟨_, _, _, rfl⟩
  have HG := Lib.hid (fun W => c_get f.data hz W)
  rw [hG] at HG
  have hM : mend c f = if er = 0 then ({ c with over := true }.stop 0, ⟨8, code, words⟩, true, 0) else (c.stop er, Ev.zero, false, er) := by unfold mend; rw [hG]
  obtain ⟨R, hR⟩ : ∃ R, R = mend c f := ⟨_, rfl⟩
  rw [← hR]
  have HR := Lib.hid (hR.trans hM)
  obtain ⟨d, hd⟩ : ∃ d, d = f.data := ⟨_, rfl⟩
  rw [← hd] at HG
  have HU := Lib.hid hu
  have HB := Lib.hid hb
  obtain ⟨fin, op, masked, k0, k1, k2, k3, d'⟩ := f
  simp only [Fr.cs] at *
  subst hd
  clear hb ho hu hG hM hz hR
  go_enter Try.func67, Try.ntmps67
  go_wp2_with fail
  refine (HG.out _).mono ?_
  rintro e w1 ⟨rfl, ht⟩
  have HBR := Lib.hid (Blk.touch (by simpa using Blk.new (w.alloc (.cells #[.bool fin, .int .i64 op, .bool masked, .int .u8 k0, .int .u8 k1, .int .u8 k2, .int .u8 k3, .string d] 59)) 47 #[.int .i64 0, .int .i64 0, .string ⟨#[]⟩] : Blk _ (w.heap.size + 1) 47 #[.int .i64 0, .int .i64 0, .string ⟨#[]⟩]) ht (fun h => h))
  have HT := Lib.hid ((((Touch.refl NoS w).alloc (.cells #[.bool fin, .int .i64 op, .bool masked, .int .u8 k0, .int .u8 k1, .int .u8 k2, .int .u8 k3, .string d] 59)).alloc (.cells #[.int .i64 0, .int .i64 0, .string ⟨#[]⟩] 47)).trans ht)
  have HB1 := Lib.hid (HB.out.touch HT.out (fun h => h))
  have HU1 := Lib.hid (Blk.touch (S := NoS) (w := w) HU.out HT.out (fun h => h))
  have hne : w.heap.size + 1 ≠ g := HBR.out.ne_ HB1.out (by decide)
  have hnu : cu ≠ g := Blk.ne_ HU1.out HB1.out (by decide)
  have hnl := hbs
  clear ht HG
  by_cases her : er = 0
  · subst her
    rw [if_pos rfl] at HR
    have c4 := HB1.out.cell 4
    have f4 := HB1.out.frozen 4
    have hl := HB1.out.lt
    simp [mCells] at c4
    have HB2 : Hid (Blk (w1.setCell ⟨g, 4, none⟩ (.bool true)) g 97 (mCells c.most c.op v cu true c.err)) := HB1.out.set_ 4 _
    go_wp2_with fail
    refine (m_stop g c.most c.op v cu true c.err 0 _ HB2.out).mono ?_
    rintro e w2 ⟨rfl, hb3, ht3⟩
    have HT3 := Lib.hid (((Touch.refl (At g) w1).setAt 4 (.bool true)).trans ht3)
    have HB3 := Lib.hid hb3
    have HBR3 := Lib.hid (HBR.out.touch HT3.out hne)
    have HU3 := Lib.hid (Blk.touch (w := w1) HU1.out HT3.out hnu)
    clear hb3 ht3 c4 f4 HB2
    go_wp2_with (refine wpList_store_row rfl 47 (.tmp 4) (.tmp 32) rfl (w.heap.size + 1) #[.int .i64 8, .int .i64 code, .string words] rfl rfl 47 #[.int .i64 0, .int .i64 0, .string ⟨#[]⟩] HBR3.out ev_info rfl (ev_one _ _ _) ?_)
    have hbr : Blk (w2.setRow (w.heap.size + 1) #[.int .i64 8, .int .i64 code, .string words]) (w.heap.size + 1) 47 (evAgg ⟨8, code, words⟩) := HBR3.out.row
    have htr : Touch NoS w1 w1 := Touch.refl _ _
    have hfar : ∀ k, k ≠ w.heap.size + 1 → (w2.setRow (w.heap.size + 1) #[.int .i64 8, .int .i64 code, .string words]).heap[k]? = w2.heap[k]? := fun k hk => setRow_other w2 _ k _ hk
    refine bodyPost_ret (v := .tuple #[.agg (evAgg ⟨8, code, words⟩), .bool true, .int .i64 0]) (end_results _ _ ⟨8, code, words⟩ _ _ _ rfl rfl rfl hbr) rfl ?_
    rw [HR.out]
    refine ⟨rfl, ⟨.slice none 0 0, ⟨?_, own_nil _ _ _ _, ?_⟩, Loc.nil_ _ _⟩, ?_⟩
    · exact (hfar g (fun h => hne h.symm)).trans HB3.out
    · exact (hfar cu (by have := HU.out.lt; omega)).trans HU3.out
    · exact (((HT.out.of_no : Touch (At g) w w1).trans HT3.out).row (by omega) _).mono (fun k hk => .inl hk)
  · have HER := Lib.hid her
    rw [if_neg her] at HR
    have hq : (er != 0) = true := by rw [bne_iff_ne]; exact her
    go_wp2_with fail
    refine (m_stop g c.most c.op v cu c.over c.err er _ HB1.out).mono ?_
    rintro e w2 ⟨rfl, hb3, ht3⟩
    have HT3 := Lib.hid ht3
    have HB3 := Lib.hid hb3
    have HBR3 := Lib.hid (HBR.out.touch HT3.out hne)
    have HU3 := Lib.hid (Blk.touch (w := w1) HU1.out HT3.out hnu)
    clear hb3 ht3
    go_wp2_with (refine wpList_store_row rfl 47 (.tmp 4) (.tmp 22) rfl (w.heap.size + 1) #[.int .i64 0, .int .i64 0, .string ⟨#[]⟩] rfl rfl 47 #[.int .i64 0, .int .i64 0, .string ⟨#[]⟩] HBR3.out ev_info rfl (ev_one _ _ _) ?_; rw [setRow_same HBR3.out])
    refine bodyPost_ret (v := .tuple #[.agg (evAgg Ev.zero), .bool false, .int .i64 er]) (end_results _ _ Ev.zero _ _ _ rfl rfl rfl HBR3.out) rfl ?_
    rw [HR.out]
    exact ⟨rfl, ⟨.slice none 0 0, ⟨HB3.out, own_nil _ _ _ _, HU3.out⟩, Loc.nil_ _ _⟩, ((HT.out.of_no : Touch (At g) w w1).trans HT3.out).mono (fun k hk => .inl hk)⟩
end Go.Proofs.Ytpadlcllcmodaaa
