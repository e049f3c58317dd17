/- law12: MsgWhole: the walk. -/
import Derived.Test.YtkhppojlabajaaaGh
namespace Go.Proofs.Ytkhppojlabajaaa
open Go.RowKit
set_option linter.unusedSimpArgs false
set_option linter.unusedVariables false

set_option maxHeartbeats 6400000 in
set_option maxRecDepth 100000 in
theorem whole12_row (w : World) (A : Option Addr) (ls : List ByteArray) (c : Nat) (hr : Rd w A (ls.flatMap fun x => [.string x])) (hg : ∀ x ∈ ls, x.size ≤ maxLen) (hlc : ls.length ≤ c) (hcc : c ≤ maxLen)
    (B : Option Addr) (ps : List ByteArray) (cb : Nat) (hp : Rd w B (ps.flatMap fun x => [.string x])) (hpg : ∀ x ∈ ps, x.size ≤ maxLen) (hpc : ps.length ≤ cb) (hpm : cb ≤ maxLen) :
    Calls Try.prog 12 #[.slice A ls.length c, .slice B ps.length cb] w fun e w' => e = .returned (.bool true) ∧ Touch NoS w w' := by
  have HR := Lib.hid hr
  have HG := Lib.hid hg
  have HP := Lib.hid hp
  have HPG := Lib.hid hpg
  obtain ⟨n, hn⟩ : ∃ n, n = ls.length := ⟨_, rfl⟩
  obtain ⟨q, hq⟩ : ∃ n, n = ps.length := ⟨_, rfl⟩
  rw [← hn] at hlc ⊢
  rw [← hq] at hpc ⊢
  have HN := Lib.hid hn.symm
  have HQ := Lib.hid hq.symm
  unfold maxLen at hcc hpm
  clear hr hg hn hp hpg hq
  go_enter Try.func12, Try.ntmps12
  go_wp2_with fail
  refine (m_new 200 (by omega) (by omega) _).mono ?_
  rintro e w1 ⟨g, cu, rfl, hg, hcu, hm, ht⟩
  have HM1 := Lib.hid hm
  have HT1 := Lib.hid ht
  clear hm ht
  go_wp2_with fail
  refine (aw12 _).mono ?_
  rintro e w2 ⟨rfl, ht⟩
  have HM2 := Lib.hid (HM1.out.no ht)
  have HT2 := Lib.hid (HT1.out.trans ht)
  clear ht HM1 HT1
  by_cases h20 : 20 < n
  · go_wp2_with fail
    refine (aw12 _).mono ?_
    rintro e w3 ⟨rfl, ht⟩
    have HT3 := Lib.hid (HT2.out.trans ht)
    clear ht
    go_wp2
    go_ret
    exact ⟨rfl, HT3.out⟩
  have h20' : n ≤ 20 := by omega
  have HGD := Lib.hid (Mc.new_good 200 (by omega) (by omega))
  clear h20
  go_wp2_with fail
  go_loopw [7] (fun iv wr => ∃ (k : Nat) (v : Value), k ≤ n ∧ iv = .int .i64 k ∧ IsMv wr w.heap.size g cu (Mc.new 200) v ∧ Touch NoS w wr) (fun iv _ => n - (intOf iv).toNat)
  case atStart => exact ⟨0, _, by omega, rfl, HM2.out, HT2.out⟩
  case round =>
    obtain ⟨k, v, hk, rfl, hm, ht⟩ := hrel
    have HM := Lib.hid hm
    have HT := Lib.hid ht
    have hsz := ht.size
    by_cases hlt : k < n
    · have hk1 : k < ls.length := by rw [HN.out]; exact hlt
      obtain ⟨gA, off, rfl, hgA, c0⟩ := str_at (HR.out.touch_no ht) k hk1
      obtain ⟨gw, ow, he, hgw, cw⟩ := str_at HR.out k hk1
      injection he with he
      injection he with e1 e2
      subst e1 e2
      have h3 := HG.out ls[k] (List.getElem_mem hk1)
      obtain ⟨s, hsd⟩ : ∃ s, s = ls[k] := ⟨_, rfl⟩
      rw [← hsd] at c0 h3 cw
      have HCW := Lib.hid cw
      have HGW := Lib.hid hgw
      unfold maxLen at h3
      clear hm ht hk1 hsd cw hgw HM2 HT2
      by_cases hbig : 200 < s.size
      · go_wp2
        go_ret
        exact ⟨rfl, HT.out⟩
      have hsm : s.size ≤ 200 := by omega
      have hk2 := mt_begin 200 Uc.new true s
      rw [if_neg (by omega), if_neg (show ¬ true = false by simp)] at hk2
      have HK := Lib.hid hk2
      clear hbig hk2
      go_wp2_with fail
      refine (im_take HM.out HGD.out ⟨true, 2, false, 0, 0, 0, 0, s⟩ (fr_good _ _ (by omega) _ (by unfold maxLen; omega)) (by show s.size ≤ _; omega) hsz _ _ _ _ HK.out).mono ?_
      rintro e w3 ⟨rfl, ⟨v3, hm, hl⟩, ht, _⟩
      have hm4 := hm.no ((Touch.refl NoS w3).alloc (.cells #[.int .i64 2, .int .i64 0, .string s] 57))
      have ht4 := (MO_old HT.out HM.out ht (Nat.le_refl _) hg hcu).alloc (.cells #[.int .i64 2, .int .i64 0, .string s] 57)
      have hb4 := Blk.new w3 57 #[.int .i64 2, .int .i64 0, .string s]
      clear hm ht hl HM HT
      go_upto_region 10 with (fail)
      obtain ⟨w4, hw4⟩ : ∃ w4, w4 = w3.alloc (.cells #[.int .i64 2, .int .i64 0, .string s] 57) := ⟨_, rfl⟩
      obtain ⟨gb, hgb⟩ : ∃ gb, gb = w3.heap.size := ⟨_, rfl⟩
      rw [← hw4] at hm4 ht4 hb4 ⊢
      rw [← hgb] at hb4 ⊢
      have HM4 := Lib.hid hm4
      have HT4 := Lib.hid ht4
      have x0 := hb4.cell 0
      have x1 := hb4.cell 1
      have x2 := hb4.cell 2
      have xl := hb4.lt
      simp at x0 x1 x2
      have c0 := ht4.cell HCW.out
      have hgA := Nat.lt_of_lt_of_le HGW.out ht4.size
      have hsz4 := ht4.size
      have kn := neq_ev_all ⟨2, 0, s⟩ ⟨2, 0, s⟩ true (Ev.same_self _)
      simp only at kn
      have HPT : Hid (∀ W, Touch NoS w4 W → Calls Try.prog 34 #[.pointer (some ⟨g, 0, none⟩)] W fun e w' => e = .returned (.int .i64 0) ∧ w' = W) := fun W hW => (im_part (HM4.out.no hW) 0 rfl).mono fun _ _ h => ⟨h.1, h.2.symm⟩
      clear hm4 ht4 hb4 hw4 hgb
      go_quiet ((go_at_call 34; refine Calls.quiet_of_same (HPT.out _ ?_); exact (Touch.refl _ _).drewN _))
      have HM5 := Lib.hid (HM4.out.no ((Touch.refl NoS w4).drewN nq))
      have HT5 := Lib.hid (HT4.out.drewN nq)
      clear HM4 HT4 HPT kn x0 x1 x2
      by_cases hpk : k < q
      · have hk3 : k < ps.length := by rw [HQ.out]; exact hpk
        obtain ⟨gp, op, rfl, hgp, d0⟩ := str_at (HP.out.touch_no HT5.out) k hk3
        obtain ⟨gw, ow, he, hgw, cw⟩ := str_at HP.out k hk3
        injection he with he
        injection he with e1 e2
        subst e1 e2
        have h4 := HPG.out ps[k] (List.getElem_mem hk3)
        obtain ⟨p, hpd⟩ : ∃ p, p = ps[k] := ⟨_, rfl⟩
        rw [← hpd] at d0 h4 cw
        have HDW := Lib.hid cw
        have HGP := Lib.hid hgw
        unfold maxLen at h4
        clear hk3 hpd cw hgw
        by_cases hps : p.size ≤ 125
        · have hk4 := mt_ctl (c := Mc.new 200) (f := ⟨true, 10, false, 0, 0, 0, 0, p⟩) rfl rfl (.inr rfl) rfl hps (.inr rfl)
          have HK4 := Lib.hid hk4
          clear hk4
          obtain ⟨w5, hw5⟩ : ∃ w5, w5 = w4.drewN nq := ⟨_, rfl⟩
          have hl5 : w4.heap.size = w5.heap.size := by rw [hw5]; rfl
          rw [← hw5] at HM5 HT5 d0 hgp ⊢
          clear hw5
          go_wp2_with fail
          refine (im_take HM5.out HGD.out ⟨true, 10, false, 0, 0, 0, 0, p⟩ (fr_good _ _ (by omega) _ (by unfold maxLen; omega)) (by show p.size ≤ _; omega) (by have := HT5.out.size; omega) _ _ _ _ HK4.out).mono ?_
          rintro e w6 ⟨rfl, ⟨v6, hm, hl⟩, ht, _⟩
          have hm7 := hm.no ((Touch.refl NoS w6).alloc (.cells #[.int .i64 10, .int .i64 0, .string p] 57))
          have ht7 := (MO_old HT5.out HM5.out ht (Nat.le_refl _) hg hcu).alloc (.cells #[.int .i64 10, .int .i64 0, .string p] 57)
          have hb7 := Blk.new w6 57 #[.int .i64 10, .int .i64 0, .string p]
          clear hm ht hl HM5 HT5 d0 hgp hl5
          go_upto_region 14 with (fail)
          obtain ⟨w7, hw7⟩ : ∃ w7, w7 = w6.alloc (.cells #[.int .i64 10, .int .i64 0, .string p] 57) := ⟨_, rfl⟩
          obtain ⟨gd, hgd⟩ : ∃ gb, gb = w6.heap.size := ⟨_, rfl⟩
          rw [← hw7] at hm7 ht7 hb7 ⊢
          rw [← hgd] at hb7 ⊢
          have HM7 := Lib.hid hm7
          have HT7 := Lib.hid ht7
          have x0 := hb7.cell 0
          have x1 := hb7.cell 1
          have x2 := hb7.cell 2
          have xl := hb7.lt
          simp at x0 x1 x2
          have d0 := ht7.cell HDW.out
          have hgp := Nat.lt_of_lt_of_le HGP.out ht7.size
          have kn := neq_ev_all ⟨10, 0, p⟩ ⟨10, 0, p⟩ true (Ev.same_self _)
          simp only at kn
          clear hm7 ht7 hb7 hw7 hgd
          go_quiet (fail)
          go_wp2_with fail
          go_roundw
          · exact ⟨k + 1, v6, by omega, by go_num, HM7.out.no ((Touch.refl NoS w7).drewN _), HT7.out.drewN _⟩
          · simp [intOf]; omega
        · go_wp2_with fail
          go_roundw
          · exact ⟨k + 1, v3, by omega, by go_num, HM5.out, HT5.out⟩
          · simp [intOf]; omega
      · go_wp2_with fail
        go_roundw
        · exact ⟨k + 1, v3, by omega, by go_num, HM5.out, HT5.out⟩
        · simp [intOf]; omega
    · have hkn : k = n := by omega
      subst hkn
      clear hm ht
      go_wp2_with fail
      refine (im_err HM.out).mono ?_
      rintro e w3 ⟨rfl, rfl⟩
      rw [show (Mc.new 200).err = 0 from rfl]
      go_wp2_with fail
      refine (im_over HM.out).mono ?_
      rintro e w3 ⟨rfl, rfl⟩
      rw [show (Mc.new 200).over = false from rfl]
      go_wp2
      go_ret
      exact ⟨rfl, HT.out⟩
end Go.Proofs.Ytkhppojlabajaaa
