/- law12: MsgStops: the walk. -/
import Derived.Test.YtkhppojlabajaaaGh
import Derived.Test.YtkhppojlabajaaaGq
namespace Go.Proofs.Ytkhppojlabajaaa
open Go.RowKit
set_option linter.unusedSimpArgs false
set_option linter.unusedVariables false

theorem mtake_still_eq {c : Mc} (f : Fr) (h : c.err ≠ 0 ∨ c.over = true) : mtake c f = (c, Ev.zero, false, c.err) := mt_still f h
set_option maxHeartbeats 6400000 in
set_option maxRecDepth 100000 in
theorem stops12_row (w : World) (A : Option Addr) (ls : List Fr) (c : Nat) (hr : Rd w A (ls.flatMap Fr.cl)) (hg : ∀ x ∈ ls, x.good) (hlc : ls.length ≤ c) (hcc : c ≤ maxLen)
    (B : Option Addr) (ps : List Fr) (cb : Nat) (hp : Rd w B (ps.flatMap Fr.cl)) (hpg : ∀ x ∈ ps, x.good) (hpc : ps.length ≤ cb) (hpm : cb ≤ maxLen) :
    Calls Try.prog 11 #[.slice A ls.length c, .slice B ps.length cb] w fun e w' => e = .returned (.bool true) ∧ Touch NoS w w' := by
  have hr : Rd w A (frs ls) := hr
  have hp : Rd w B (frs ps) := hp
  have HR := Lib.hid hr
  have HG := Lib.hid hg
  have HP := Lib.hid hp
  have HPG := Lib.hid hpg
  obtain ⟨n, hn⟩ : ∃ n, n = ls.length := ⟨_, rfl⟩
  obtain ⟨q, hq⟩ : ∃ n, n = ps.length := ⟨_, rfl⟩
  rw [← hn] at hlc ⊢
  rw [← hq] at hpc ⊢
  have HN := Lib.hid hn.symm
  have HQ := Lib.hid hq.symm
  have hnm : n ≤ maxLen := by omega
  have hqm : q ≤ maxLen := by omega
  have HNM := Lib.hid hnm
  have HQM := Lib.hid hqm
  clear hr hg hn hp hpg hq hnm hqm hcc hpm
  go_enter Try.func11, Try.ntmps11
  go_wp2_with fail
  refine (m_new 200 (by omega) (by omega) _).mono ?_
  rintro e w1 ⟨g, cu, rfl, hg, hcu, hm, ht⟩
  have HM1 := Lib.hid hm
  have HT1 := Lib.hid ht
  clear hm ht
  go_wp2_with fail
  refine (aw12 _).mono ?_
  rintro e w2 ⟨rfl, ht⟩
  have HM2 := Lib.hid (HM1.out.no ht)
  have HT2 := Lib.hid (HT1.out.trans ht)
  clear ht HM1 HT1
  go_wp2_with fail
  refine (r12_few A ls n c HN.out w2 (HR.out.touch_no HT2.out) HNM.out HG.out).mono ?_
  rintro e w3 ⟨rfl, rfl⟩
  obtain ⟨fw, hfw⟩ : ∃ fw, fw = few12 ls := ⟨_, rfl⟩
  rw [← hfw]
  have HFW := Lib.hid hfw
  clear hfw
  cases fw with
  | false =>
    go_wp2_with fail
    refine (aw12 _).mono ?_
    rintro e w3 ⟨rfl, ht⟩
    have HT3 := Lib.hid (HT2.out.trans ht)
    clear ht
    go_wp2
    go_ret
    exact ⟨rfl, HT3.out⟩
  | true =>
  go_wp2_with fail
  refine (r12_few B ps q cb HQ.out w2 (HP.out.touch_no HT2.out) HQM.out HPG.out).mono ?_
  rintro e w3 ⟨rfl, rfl⟩
  obtain ⟨fv, hfv⟩ : ∃ fv, fv = few12 ps := ⟨_, rfl⟩
  rw [← hfv]
  have HFV := Lib.hid hfv
  clear hfv
  cases fv with
  | false =>
    go_wp2_with fail
    refine (aw12 _).mono ?_
    rintro e w3 ⟨rfl, ht⟩
    have HT3 := Lib.hid (HT2.out.trans ht)
    clear ht
    go_wp2
    go_ret
    exact ⟨rfl, HT3.out⟩
  | true =>
  obtain ⟨h300, h30⟩ := of_decide_eq_true HFW.out.symm
  rw [HN.out] at h30
  have H300 := Lib.hid h300
  obtain ⟨k300, k30⟩ := of_decide_eq_true HFV.out.symm
  rw [HQ.out] at k30
  have K300 := Lib.hid k300
  clear h300 k300
  go_wp2_with fail
  go_loopw [7] (fun iv wr => ∃ (k : Nat) (m : Mc) (v : Value), k ≤ n ∧ iv = .int .i64 k ∧ IsMv wr w.heap.size g cu m v ∧ m.good ∧ m.tidy ∧ Touch NoS w wr) (fun iv _ => n - (intOf iv).toNat)
  case atStart => exact ⟨0, _, _, by omega, rfl, HM2.out, Mc.new_good 200 (by omega) (by omega), .inr rfl, HT2.out⟩
  case round =>
    obtain ⟨k, m, v, hk, rfl, hm, hgd, htd, ht⟩ := hrel
    have HM := Lib.hid hm
    have HT := Lib.hid ht
    have HGD := Lib.hid hgd
    have HTD := Lib.hid htd
    have hsz := ht.size
    by_cases hlt : k < n
    · have hk1 : k < ls.length := by rw [HN.out]; exact hlt
      obtain ⟨gA, off, rfl, hgA, a0, a1, a2, a3, a4, a5, a6, a7⟩ := fr_cells (HR.out.touch_no ht) k hk1
      have hfg := HG.out ls[k] (List.getElem_mem hk1)
      have hfz := H300.out ls[k] (List.getElem_mem hk1)
      obtain ⟨f, hf⟩ : ∃ f, f = ls[k] := ⟨_, rfl⟩
      rw [← hf] at a0 a1 a2 a3 a4 a5 a6 a7 hfg hfz
      have HTK := Lib.hid (im_take HM.out HGD.out f hfg (by omega) hsz _ _ _ _ (show mtake m f = (_, _, _, _) from rfl))
      have HTY := Lib.hid (mtake_tidy f htd)
      obtain ⟨fin, op, masked, k0, k1, k2, k3, d⟩ := f
      simp only [Fr.cs] at *
      clear hm ht hgd htd hk1 hfg hf HM2 HT2
      go_wp2_with fail
      refine HTK.out.mono ?_
      rintro e w3 ⟨rfl, ⟨v3, hm, hl⟩, ht, hgd⟩
      have HM3 := Lib.hid hm
      have HG3 := Lib.hid hgd
      have HT3 := Lib.hid (MO_old HT.out HM.out ht (Nat.le_refl _) hg hcu)
      clear hm ht hl hgd HTK HM HT
      go_wp2_with fail
      go_roundw
      · exact ⟨k + 1, _, v3, by omega, by go_num, HM3.out, HG3.out, HTY.out, HT3.out⟩
      · simp [intOf]; omega
    · have hkn : k = n := by omega
      subst hkn
      clear hm ht hgd htd
      go_wp2_with fail
      refine (im_err HM.out).mono ?_
      rintro e w3 ⟨rfl, rfl⟩
      obtain ⟨er, her⟩ : ∃ x, x = m.err := ⟨_, rfl⟩
      rw [← her]
      have HER := Lib.hid her
      clear her
      have hstill : ∀ (hst : m.err ≠ 0 ∨ m.over = true), m.part.size = 0 := fun hst => by
        rcases HTD.out with ⟨h1, h2⟩ | h
        · rcases hst with h | h
          · exact absurd h1 h
          · rw [h2] at h; cases h
        · rw [h]; rfl
      have HSTL := Lib.hid hstill
      clear hstill
      have hcase : (er = 0 ∧ m.over = false) ∨ ((er != 0) = true ∧ er ≠ 0) ∨ (er = 0 ∧ m.over = true) := by
        by_cases h : er = 0
        · cases ho : m.over
          · exact .inl ⟨h, rfl⟩
          · exact .inr (.inr ⟨h, rfl⟩)
        · exact .inr (.inl ⟨by rw [bne_iff_ne]; exact h, h⟩)
      rcases hcase with ⟨rfl, ho⟩ | hst
      · have HO := Lib.hid ho
        clear ho
        go_wp2_with fail
        refine (im_over HM.out).mono ?_
        rintro e w3 ⟨rfl, rfl⟩
        rw [HO.out]
        go_wp2
        go_ret
        exact ⟨rfl, HT.out⟩
      have hst2 : m.err ≠ 0 ∨ m.over = true := by
        rcases hst with ⟨_, h⟩ | ⟨_, h⟩
        · exact .inl (by rw [← HER.out]; exact h)
        · exact .inr h
      have HST := Lib.hid hst2
      have HPZ := Lib.hid (HSTL.out hst2)
      have hsame : (er != er) = false := bne_self_eq_false _
      have hsame' : (er == er) = true := beq_self_eq_true _
      have kn := neq_ev_all Ev.zero Ev.zero true (Ev.same_self _)
      simp only [Ev.zero] at kn
      clear hst2
      go_upto_region 9 with (fail)
      go_cut [58] (fun tv wx => tv = .bool false ∧ IsMv wx w.heap.size g cu m v ∧ Touch NoS w wx)
      case first =>
        rcases hst with ⟨q1, q2⟩ | ⟨q1, q2⟩
        · have q3 : (er == 0) = false := by rw [beq_eq_false_iff_ne]; exact q2
          go_wp2_with fail
          go_meet
          exact ⟨rfl, HM.out, HT.out⟩
        · subst q1
          have HO := Lib.hid q2
          clear q2
          go_wp2_with fail
          refine (im_over HM.out).mono ?_
          rintro e w3 ⟨rfl, rfl⟩
          rw [HO.out]
          go_wp2_with fail
          go_meet
          exact ⟨rfl, HM.out, HT.out⟩
      case rest =>
      obtain ⟨rfl, hm, ht⟩ := hcut
      have HMc := Lib.hid hm
      have HTc := Lib.hid ht
      clear hm ht
      go_wp2_with fail
      go_loopw [9] (fun iv wr => ∃ (j : Nat), j ≤ q ∧ iv = .int .i64 j ∧ (∃ v', IsMv wr w.heap.size g cu m v') ∧ Touch NoS w wr) (fun iv _ => q - (intOf iv).toNat)
      case atStart => exact ⟨0, by omega, rfl, ⟨_, HMc.out⟩, HTc.out⟩
      case round =>
        obtain ⟨j, hj, rfl, ⟨v', hm⟩, ht⟩ := hrel
        have HM5 := Lib.hid hm
        have HT5 := Lib.hid ht
        have hsz5 := ht.size
        by_cases hltj : j < q
        · have hk1 : j < ps.length := by rw [HQ.out]; exact hltj
          obtain ⟨gA, off, rfl, hgA, a0, a1, a2, a3, a4, a5, a6, a7⟩ := fr_cells (HP.out.touch_no ht) j hk1
          have hfg := HPG.out ps[j] (List.getElem_mem hk1)
          have hfz := K300.out ps[j] (List.getElem_mem hk1)
          obtain ⟨f, hf⟩ : ∃ f, f = ps[j] := ⟨_, rfl⟩
          rw [← hf] at a0 a1 a2 a3 a4 a5 a6 a7 hfg hfz
          have htk := im_take HM5.out HGD.out f hfg (by omega) hsz5 _ _ _ _ (mtake_still_eq f HST.out)
          rw [← HER.out] at htk
          have HTK := Lib.hid htk
          obtain ⟨fin, op, masked, k0, k1, k2, k3, d⟩ := f
          simp only [Fr.cs, Ev.zero] at *
          clear hm ht hk1 hfg hf htk
          go_wp2_with fail
          refine HTK.out.mono ?_
          rintro e w6 ⟨rfl, ⟨v6, hm, hl⟩, ht, _⟩
          have HM6 := Lib.hid (hm.no ((Touch.refl NoS w6).alloc (.cells #[.int .i64 0, .int .i64 0, .string ⟨#[]⟩] 57)))
          have HT6 := Lib.hid ((MO_old HT5.out HM5.out ht (Nat.le_refl _) hg hcu).alloc (.cells #[.int .i64 0, .int .i64 0, .string ⟨#[]⟩] 57))
          clear hm ht hl HTK HM5 HT5
          go_wp2_with fail
          refine (im_part HM6.out 0 HPZ.out).mono ?_
          rintro e w7 ⟨rfl, rfl⟩
          go_wp2_with fail
          go_roundw
          · exact ⟨j + 1, by omega, by go_num, ⟨v6, HM6.out⟩, HT6.out⟩
          · simp [intOf]; omega
        · have hjq : j = q := by omega
          subst hjq
          clear hm ht
          go_wp2_with fail
          refine (im_err HM5.out).mono ?_
          rintro e w6 ⟨rfl, rfl⟩
          rw [← HER.out]
          go_wp2
          go_ret
          exact ⟨rfl, HT5.out⟩
end Go.Proofs.Ytkhppojlabajaaa
