/- law17: BridgeCodes. -/
import Derived.Test.YtlnabpoohnphiaaGreatB44
import Derived.Test.YtlnabpoohnphiaaGreatBWi
namespace Go.Proofs.YtlnabpoohnphiaaGreat
open Go.RowKit
set_option linter.unusedSimpArgs false
set_option linter.unusedVariables false

theorem u16_bounds17 {c : Int} (hc : (Lit.int .u16 c).wf = true) : 0 ≤ c ∧ c ≤ 65535 := by
  obtain ⟨h0, h1⟩ := (Lit.wf_int_iff .u16 c).1 hc
  rw [show IntKind.u16.min = 0 from rfl] at h0
  rw [show IntKind.u16.max = 65535 from rfl] at h1
  exact ⟨h0, h1⟩
set_option maxHeartbeats 12800000 in
set_option maxRecDepth 100000 in
theorem codes17_row (w : World) (code : Int) (gc : (Lit.int .u16 code).wf = true) (nn_ : Bool) (draw : Int) (gd : (Lit.int .u32 draw).wf = true) :
    Calls Tryz.prog 6 #[.int .u16 code, .bool nn_, .int .u32 draw] w fun e w' => e = .returned (.bool true) ∧ Touch NoS w w' := by
  have hc0 := u16_bounds17 gc
  go_enter Tryz.func6, Tryz.ntmps6
  go_wp2_with fail
  refine (l_cfg17 99 99 250 3 99 (by omega) (by omega) (by omega) (by omega) (by omega) _).mono ?_
  rintro e w2 ⟨b, rfl, hbr, ht⟩
  have HT2 := Lib.hid ht
  have HNEW := Lib.hid (a_new b (1 + 99) (1 + 99) (1 + 3 % 8) (1 + 99 + 99) (1 + 250) (by omega) (by omega) (by omega) (by omega) (by omega) (by omega) (by omega) (by omega) (by omega) (by omega) draw w2 hbr)
  clear ht hbr
  unfold cfgW
  unfold cfgW at HNEW
  go_wp2_with fail
  refine HNEW.out.mono ?_
  rintro e w3 ⟨g, gl, gq, X, K, rfl, k1, k2, k3, k4, k5, k6, k7, hA⟩
  have HK := Lib.hid (And.intro k1 (And.intro k2 (And.intro k3 (And.intro k4 (And.intro k5 (And.intro k6 k7))))))
  have HA3 := Lib.hid hA
  clear hA k1 k2 k3 k4 k5 k6 k7 HNEW
  go_wp2_with fail
  refine (aw17 _).mono ?_
  rintro e w4 ⟨rfl, ht⟩
  have HA4 := Lib.hid (HA3.out.no ht)
  clear ht HA3
  have HRM : Hid (roomL K [] K.message = true) := room_idle HK.out.1 HK.out.2.1 HK.out.2.2.1
  have HC0 := Lib.hid hc0
  obtain ⟨D0, hD0⟩ : ∃ D, D = Go.strOfNums [code / 256, code % 256] := ⟨_, rfl⟩
  have HD0 := Lib.hid hD0
  go_upto_region 4 with (fail)
  go_cut [9] (fun v wx => v = .string D0 ∧ Touch NoS w4 wx)
  case first =>
    have hw : IntKind.u16.wrap (code.tdiv 256) = code / 256 := by rw [Int.tdiv_eq_ediv_of_nonneg hc0.1, IntWalk.u16_in _ (by omega)]
    have hm : code / 256 % 256 = code / 256 := by omega
    have hcv := fun (w : World) (a b : Int) (t : TypeId) (cap : Nat) => conv_two w a b t (0, 0) cap
    go_wp2_with fail
    go_meet
    exact ⟨by rw [hD0], (Touch.refl _ _).alloc _⟩
  case rest =>
    obtain ⟨rfl, ht⟩ := hcut
    obtain ⟨w5, rfl⟩ : ∃ we : World, we = wc := ⟨_, rfl⟩
    have HA5 := Lib.hid (HA4.out.no ht)
    clear ht HA4 hD0 hc0
    cases nn_ with
    | true =>
      have hDz : (⟨#[]⟩ : ByteArray).size ≤ 125 := by decide
      have hcg : (cget (⟨#[]⟩ : ByteArray)).2.2 = 0 := rfl
      have hcw : (cget (⟨#[]⟩ : ByteArray)).2.1 = ⟨#[]⟩ := rfl
      have hout : ∀ j, 139 ≤ (K.k j).out := fun j => by rw [(HK.out.2.2.2.2.2.2 j).2.2.1]; omega
      have hmk1 := (HK.out.2.2.2.2.2.2 true).2.2.2
      have hmk0 := (HK.out.2.2.2.2.2.2 false).2.2.2
      obtain ⟨B1, hfd, hB⟩ := end_feed (K := K) (M := 1 + 99) (d := draw) hout HRM.out hmk1 hDz hcg hcw
      obtain ⟨-, hfl, hfm, hfg, hfb⟩ := ctl8_fits hDz hmk1
      obtain ⟨hs1, hl1⟩ := hB.scan1 hmk1 hDz
      obtain ⟨hs2, hl2⟩ := hB.scan2 hmk0 hDz hDz
      have HF := Lib.hid (And.intro (hB.sent true) (And.intro hB.got hB.wrong))
      simp only [Bool.not_true] at hs2 hl2
      have HS := Lib.hid (And.intro hs1 (And.intro hl1 (And.intro hs2 hl2)))
      obtain ⟨nn, hnn⟩ : ∃ nn, (fput (ctlF 8 (⟨#[]⟩ : ByteArray))).length = nn := ⟨_, rfl⟩
      rw [hnn] at hfl
      obtain ⟨P, hPz, hPs, hPT⟩ := text17 (ctlF 8 (⟨#[]⟩ : ByteArray)) hfg hfm (by show (⟨#[]⟩ : ByteArray).size ≤ 1000000; omega) nn hnn hfb
      have HPT := Lib.hid hPT
      obtain ⟨W2, cp, hW2⟩ := conv_of2 P nn hPz
      have hc2 := fun W => (hW2 W).1
      have HC3 := Lib.hid (fun W => (hW2 W).2)
      rw [hPs] at HC3
      have HFD : Hid (∀ W W' b q, Touch NoS w5 W → Touch NoS W W' → W.heap.size ≤ b → b < W'.heap.size → nn ≤ q → Rd W' (some ⟨b, 0, none⟩) (u8s (fput (ctlF 8 (⟨#[]⟩ : ByteArray)))) → Calls Tryz.prog 17 #[.pointer (some ⟨g, 0, none⟩), .int .i64 1, .slice (some ⟨b, 0, none⟩) nn q] W' fun e w' => e = .returned (.int .i64 nn) ∧ At17 w2 w' g X K gl gq 0 B1) := fun W W' b q t t' h1 h2 h3 h4 => by
        refine ((HA5.out.no t).feed (by omega) true _ hfb (by omega) W' t' b nn q h1 h2 hnn h3 h4).mono ?_
        rintro e w' ⟨rfl, h⟩
        rw [hfd] at h ⊢
        exact ⟨by rw [hnn], h⟩
      clear hs1 hl1 hs2 hl2 hB hmk1 hmk0 hout hcg hW2 hPT hPs hfb hfg hfm hfd hnn hcw hDz
      go_upto_region 8 with (go_at_call 15; refine (HPT.out _).mono ?_; rintro e w6 ⟨rfl, ht6⟩; have HT6 := Lib.hid ht6; clear ht6)
      go_wp2_with fail
      have h3c := HC3.out w6
      refine (HFD.out w6 _ w6.heap.size _ HT6.out h3c.1 (Nat.le_refl _) h3c.2.2.1 h3c.2.2.2 h3c.2.1).mono ?_
      rintro e w7 ⟨rfl, hA7⟩
      have HA8 := Lib.hid hA7
      clear hA7 h3c hc2 HC3 HFD HA5 HPT HT6
      go_wp2_with fail
      refine (b_leg HA8.out.is true).mono ?_
      rintro e w9 ⟨rfl, rfl⟩
      rw [HF.out.1, HF.out.2.1, HF.out.2.2]
      go_wp2_with fail
      refine (HA8.out.take (by omega) true 300).mono ?_
      rintro e w9 ⟨⟨A9, c9, rfl, hr9⟩, hA9⟩
      have HA9 := Lib.hid hA9
      obtain ⟨nl, hnl⟩ : ∃ nl, (outB (B1 true) 300).length = nl := ⟨_, rfl⟩
      obtain ⟨P9, hP9, hS9, hcv9⟩ := str17 _ (outB_in HA8.out true 300) nl hnl
      have hcv := hcv9 w9 A9 c9 hr9
      have hsc9 : scan true 200 (sb P9) = ([outF true draw (ctlF 8 (⟨#[]⟩ : ByteArray))], [], 0) := by rw [hS9]; exact HS.out.1
      have hnl2 : nl ≤ 200 := by rw [← hnl]; exact HS.out.2.1
      rw [hnl]
      clear hA9 hr9 hcv9 hS9 hnl HA8
      go_wp2_with fail
      refine (all17_one (s := P9) (mk := true) (by omega) hsc9 _).mono ?_
      rintro e w10 ⟨g10, c10, rfl, hg10a, hg10, a1, a7, ht10⟩
      rw [(outF_data _ _ _).1] at a1
      rw [(outF_data _ _ _).2] at a7
      have HE10 := Lib.hid (HA9.out.e.grow ht10)
      have hE10 : Hid ((g10 < w2.heap.size ∨ (w9.heap.size ≤ g10 ∧ g10 < w10.heap.size))) := .inr ⟨hg10a, hg10⟩
      clear ht10 HA9 hsc9 hcv hP9
      go_wp2_with fail
      refine (HE10.out.take (by omega) false 300).mono ?_
      rintro e w11 ⟨⟨A11, c11, rfl, hr11⟩, hA11, ht11⟩
      have hk1 := HE10.out.cell ht11 hE10.out a1
      have hk7 := HE10.out.cell ht11 hE10.out a7
      have HA11 := Lib.hid hA11.at
      obtain ⟨nm, hnm⟩ : ∃ nm, (outB (B1.take K true 300 false) 300).length = nm := ⟨_, rfl⟩
      obtain ⟨P11, hP11, hS11, hcv11⟩ := str17 _ (outB_in HE10.out.at false 300) nm hnm
      have hcv := hcv11 w11 A11 c11 hr11
      have hsc11 : scan false 200 (sb P11) = ([outF false draw (ctlF 8 (⟨#[]⟩ : ByteArray))], [], 0) := by rw [hS11]; exact HS.out.2.2.1
      have hnm2 : nm ≤ 200 := by rw [← hnm]; exact HS.out.2.2.2
      have hg11 : g10 < w11.heap.size := Nat.lt_of_lt_of_le hg10 ht11.size
      rw [hnm]
      clear hA11 hr11 hcv11 hS11 hnm HE10 hE10 a1 a7 ht11 hg10 hg10a
      go_wp2_with fail
      refine (all17_one (s := P11) (mk := false) (by omega) hsc11 _).mono ?_
      rintro e w12 ⟨g12, c12, rfl, hg12a, hg12, y1, y7, ht12⟩
      rw [(outF_data _ _ _).1] at y1
      rw [(outF_data _ _ _).2] at y7
      have a1 : w12.cell? ⟨g10, 1, none⟩ = some (.int .i64 8) := ht12.cell hk1
      have a7 : w12.cell? ⟨g10, 7, none⟩ = some (.string (⟨#[]⟩ : ByteArray)) := ht12.cell hk7
      have b1 : w12.cell? ⟨g12, 1, none⟩ = some (.int .i64 8) := y1
      have b7 : w12.cell? ⟨g12, 7, none⟩ = some (.string (⟨#[]⟩ : ByteArray)) := y7
      have hg10 : g10 < w12.heap.size := Nat.lt_of_lt_of_le hg11 ht12.size
      have HTF := Lib.hid (HT2.out.trans (HA11.out.no ht12).old)
      clear ht12 HA11 hsc11 hcv hP11 hk1 hk7 hg11 y1 y7
      go_wp2_with fail
      go_ret
      exact ⟨rfl, HTF.out⟩
    | false =>
      cases hv : valid11 code with
      | true =>
        have hDz : D0.size ≤ 125 := by have := HD0.out; rw [this, numsB_size]; exact (by decide : (2 : Nat) ≤ 125)
        have hcg0 := cget_code HC0.out.1 HC0.out.2
        rw [← HD0.out, hv, if_neg (by simp)] at hcg0
        have hcg : (cget D0).2.2 = 0 := by rw [hcg0]
        have hcw : (cget D0).2.1 = ⟨#[]⟩ := by rw [hcg0]
        clear hcg0
        have hout : ∀ j, 139 ≤ (K.k j).out := fun j => by rw [(HK.out.2.2.2.2.2.2 j).2.2.1]; omega
        have hmk1 := (HK.out.2.2.2.2.2.2 true).2.2.2
        have hmk0 := (HK.out.2.2.2.2.2.2 false).2.2.2
        obtain ⟨B1, hfd, hB⟩ := end_feed (K := K) (M := 1 + 99) (d := draw) hout HRM.out hmk1 hDz hcg hcw
        obtain ⟨-, hfl, hfm, hfg, hfb⟩ := ctl8_fits hDz hmk1
        obtain ⟨hs1, hl1⟩ := hB.scan1 hmk1 hDz
        obtain ⟨hs2, hl2⟩ := hB.scan2 hmk0 hDz hDz
        have HF := Lib.hid (And.intro (hB.sent true) (And.intro hB.got hB.wrong))
        simp only [Bool.not_true] at hs2 hl2
        have HS := Lib.hid (And.intro hs1 (And.intro hl1 (And.intro hs2 hl2)))
        obtain ⟨nn, hnn⟩ : ∃ nn, (fput (ctlF 8 D0)).length = nn := ⟨_, rfl⟩
        rw [hnn] at hfl
        obtain ⟨P, hPz, hPs, hPT⟩ := text17 (ctlF 8 D0) hfg hfm (by show D0.size ≤ 1000000; omega) nn hnn hfb
        have HPT := Lib.hid hPT
        obtain ⟨W2, cp, hW2⟩ := conv_of2 P nn hPz
        have hc2 := fun W => (hW2 W).1
        have HC3 := Lib.hid (fun W => (hW2 W).2)
        rw [hPs] at HC3
        have HFD : Hid (∀ W W' b q, Touch NoS w5 W → Touch NoS W W' → W.heap.size ≤ b → b < W'.heap.size → nn ≤ q → Rd W' (some ⟨b, 0, none⟩) (u8s (fput (ctlF 8 D0))) → Calls Tryz.prog 17 #[.pointer (some ⟨g, 0, none⟩), .int .i64 1, .slice (some ⟨b, 0, none⟩) nn q] W' fun e w' => e = .returned (.int .i64 nn) ∧ At17 w2 w' g X K gl gq 0 B1) := fun W W' b q t t' h1 h2 h3 h4 => by
          refine ((HA5.out.no t).feed (by omega) true _ hfb (by omega) W' t' b nn q h1 h2 hnn h3 h4).mono ?_
          rintro e w' ⟨rfl, h⟩
          rw [hfd] at h ⊢
          exact ⟨by rw [hnn], h⟩
        clear hs1 hl1 hs2 hl2 hB hmk1 hmk0 hout hcg hW2 hPT hPs hfb hfg hfm hfd hnn hcw hDz
        go_upto_region 8 with (go_at_call 15; refine (HPT.out _).mono ?_; rintro e w6 ⟨rfl, ht6⟩; have HT6 := Lib.hid ht6; clear ht6)
        go_wp2_with fail
        have h3c := HC3.out w6
        refine (HFD.out w6 _ w6.heap.size _ HT6.out h3c.1 (Nat.le_refl _) h3c.2.2.1 h3c.2.2.2 h3c.2.1).mono ?_
        rintro e w7 ⟨rfl, hA7⟩
        have HA8 := Lib.hid hA7
        clear hA7 h3c hc2 HC3 HFD HA5 HPT HT6
        go_wp2_with fail
        refine (b_leg HA8.out.is true).mono ?_
        rintro e w9 ⟨rfl, rfl⟩
        rw [HF.out.1, HF.out.2.1, HF.out.2.2]
        go_wp2_with fail
        refine (HA8.out.take (by omega) true 300).mono ?_
        rintro e w9 ⟨⟨A9, c9, rfl, hr9⟩, hA9⟩
        have HA9 := Lib.hid hA9
        obtain ⟨nl, hnl⟩ : ∃ nl, (outB (B1 true) 300).length = nl := ⟨_, rfl⟩
        obtain ⟨P9, hP9, hS9, hcv9⟩ := str17 _ (outB_in HA8.out true 300) nl hnl
        have hcv := hcv9 w9 A9 c9 hr9
        have hsc9 : scan true 200 (sb P9) = ([outF true draw (ctlF 8 D0)], [], 0) := by rw [hS9]; exact HS.out.1
        have hnl2 : nl ≤ 200 := by rw [← hnl]; exact HS.out.2.1
        rw [hnl]
        clear hA9 hr9 hcv9 hS9 hnl HA8
        go_wp2_with fail
        refine (all17_one (s := P9) (mk := true) (by omega) hsc9 _).mono ?_
        rintro e w10 ⟨g10, c10, rfl, hg10a, hg10, a1, a7, ht10⟩
        rw [(outF_data _ _ _).1] at a1
        rw [(outF_data _ _ _).2] at a7
        have HE10 := Lib.hid (HA9.out.e.grow ht10)
        have hE10 : Hid ((g10 < w2.heap.size ∨ (w9.heap.size ≤ g10 ∧ g10 < w10.heap.size))) := .inr ⟨hg10a, hg10⟩
        clear ht10 HA9 hsc9 hcv hP9
        go_wp2_with fail
        refine (HE10.out.take (by omega) false 300).mono ?_
        rintro e w11 ⟨⟨A11, c11, rfl, hr11⟩, hA11, ht11⟩
        have hk1 := HE10.out.cell ht11 hE10.out a1
        have hk7 := HE10.out.cell ht11 hE10.out a7
        have HA11 := Lib.hid hA11.at
        obtain ⟨nm, hnm⟩ : ∃ nm, (outB (B1.take K true 300 false) 300).length = nm := ⟨_, rfl⟩
        obtain ⟨P11, hP11, hS11, hcv11⟩ := str17 _ (outB_in HE10.out.at false 300) nm hnm
        have hcv := hcv11 w11 A11 c11 hr11
        have hsc11 : scan false 200 (sb P11) = ([outF false draw (ctlF 8 D0)], [], 0) := by rw [hS11]; exact HS.out.2.2.1
        have hnm2 : nm ≤ 200 := by rw [← hnm]; exact HS.out.2.2.2
        have hg11 : g10 < w11.heap.size := Nat.lt_of_lt_of_le hg10 ht11.size
        rw [hnm]
        clear hA11 hr11 hcv11 hS11 hnm HE10 hE10 a1 a7 ht11 hg10 hg10a
        go_wp2_with fail
        refine (all17_one (s := P11) (mk := false) (by omega) hsc11 _).mono ?_
        rintro e w12 ⟨g12, c12, rfl, hg12a, hg12, y1, y7, ht12⟩
        rw [(outF_data _ _ _).1] at y1
        rw [(outF_data _ _ _).2] at y7
        have a1 : w12.cell? ⟨g10, 1, none⟩ = some (.int .i64 8) := ht12.cell hk1
        have a7 : w12.cell? ⟨g10, 7, none⟩ = some (.string D0) := ht12.cell hk7
        have b1 : w12.cell? ⟨g12, 1, none⟩ = some (.int .i64 8) := y1
        have b7 : w12.cell? ⟨g12, 7, none⟩ = some (.string D0) := y7
        have hg10 : g10 < w12.heap.size := Nat.lt_of_lt_of_le hg11 ht12.size
        have HTF := Lib.hid (HT2.out.trans (HA11.out.no ht12).old)
        clear ht12 HA11 hsc11 hcv hP11 hk1 hk7 hg11 y1 y7
        have hpl : (1000 ≤ code ∧ code ≤ 1003) ∨ (1007 ≤ code ∧ code ≤ 1011) ∨ (3000 ≤ code ∧ code ≤ 4999) := by
          unfold valid11 at hv
          have := of_decide_eq_true hv
          omega
        have hwc : IntKind.i64.wrap code = code := IntWalk.i64_in _ (by have := HC0.out; omega)
        clear hv
        go_upto_region 16 with (fail)
        go_cut [131] (fun v wx => v = .bool true ∧ wx = w12)
        case first =>
          rcases hpl with hp | hp | hp
          · have q0 : 1000 ≤ code := by omega
            have q1 : code ≤ 1003 := by omega
            go_wp2_with fail
            go_meet
            exact ⟨rfl, rfl⟩
          · have q0 : 1000 ≤ code := by omega
            have q1 : ¬ code ≤ 1003 := by omega
            have q2 : 1007 ≤ code := by omega
            have q3 : code ≤ 1011 := by omega
            go_wp2_with fail
            go_meet
            exact ⟨rfl, rfl⟩
          · have q0 : 1000 ≤ code := by omega
            have q1 : ¬ code ≤ 1003 := by omega
            have q2 : 1007 ≤ code := by omega
            have q3 : ¬ code ≤ 1011 := by omega
            have q4 : 3000 ≤ code := by omega
            have q5 : code ≤ 4999 := by omega
            go_wp2_with fail
            go_meet
            exact ⟨rfl, rfl⟩
        case rest =>
          obtain ⟨rfl, hwx⟩ := hcut
          obtain ⟨wf, rfl⟩ : ∃ w : World, w = wc := ⟨_, rfl⟩
          subst hwx
          clear hpl
          go_wp2_with fail
          go_ret
          exact ⟨rfl, HTF.out⟩
      | false =>
        have hDz : D0.size ≤ 125 := by have := HD0.out; rw [this, numsB_size]; exact (by decide : (2 : Nat) ≤ 125)
        have hcg0 := cget_code HC0.out.1 HC0.out.2
        rw [← HD0.out, hv, if_pos rfl] at hcg0
        have hcg : (cget D0).2.2 = 110 := by rw [hcg0]
        clear hcg0
        have hout : ∀ j, 139 ≤ (K.k j).out := fun j => by rw [(HK.out.2.2.2.2.2.2 j).2.2.1]; omega
        have hmk1 := (HK.out.2.2.2.2.2.2 true).2.2.2
        have hmk0 := (HK.out.2.2.2.2.2.2 false).2.2.2
        obtain ⟨B1, hfd, hB⟩ := end_feed_bad (K := K) (M := 1 + 99) (d := draw) hout HRM.out hmk1 hDz hcg
        obtain ⟨-, hfl, hfm, hfg, hfb⟩ := ctl8_fits hDz hmk1
        obtain ⟨hs1, hl1⟩ := hB.scan1 hmk1 (by decide)
        obtain ⟨hs2, hl2⟩ := hB.scan2 hmk0 (by decide) (by decide)
        have HF := Lib.hid (And.intro (hB.sent true) (And.intro hB.got hB.wrong))
        simp only [Bool.not_true] at hs2 hl2
        have HS := Lib.hid (And.intro hs1 (And.intro hl1 (And.intro hs2 hl2)))
        obtain ⟨nn, hnn⟩ : ∃ nn, (fput (ctlF 8 D0)).length = nn := ⟨_, rfl⟩
        rw [hnn] at hfl
        obtain ⟨P, hPz, hPs, hPT⟩ := text17 (ctlF 8 D0) hfg hfm (by show D0.size ≤ 1000000; omega) nn hnn hfb
        have HPT := Lib.hid hPT
        obtain ⟨W2, cp, hW2⟩ := conv_of2 P nn hPz
        have hc2 := fun W => (hW2 W).1
        have HC3 := Lib.hid (fun W => (hW2 W).2)
        rw [hPs] at HC3
        have HFD : Hid (∀ W W' b q, Touch NoS w5 W → Touch NoS W W' → W.heap.size ≤ b → b < W'.heap.size → nn ≤ q → Rd W' (some ⟨b, 0, none⟩) (u8s (fput (ctlF 8 D0))) → Calls Tryz.prog 17 #[.pointer (some ⟨g, 0, none⟩), .int .i64 1, .slice (some ⟨b, 0, none⟩) nn q] W' fun e w' => e = .returned (.int .i64 nn) ∧ At17 w2 w' g X K gl gq 0 B1) := fun W W' b q t t' h1 h2 h3 h4 => by
          refine ((HA5.out.no t).feed (by omega) true _ hfb (by omega) W' t' b nn q h1 h2 hnn h3 h4).mono ?_
          rintro e w' ⟨rfl, h⟩
          rw [hfd] at h ⊢
          exact ⟨by rw [hnn], h⟩
        clear hs1 hl1 hs2 hl2 hB hmk1 hmk0 hout hcg hW2 hPT hPs hfb hfg hfm hfd hnn hDz
        go_upto_region 8 with (go_at_call 15; refine (HPT.out _).mono ?_; rintro e w6 ⟨rfl, ht6⟩; have HT6 := Lib.hid ht6; clear ht6)
        go_wp2_with fail
        have h3c := HC3.out w6
        refine (HFD.out w6 _ w6.heap.size _ HT6.out h3c.1 (Nat.le_refl _) h3c.2.2.1 h3c.2.2.2 h3c.2.1).mono ?_
        rintro e w7 ⟨rfl, hA7⟩
        have HA8 := Lib.hid hA7
        clear hA7 h3c hc2 HC3 HFD HA5 HPT HT6
        go_wp2_with fail
        refine (b_leg HA8.out.is true).mono ?_
        rintro e w9 ⟨rfl, rfl⟩
        rw [HF.out.1, HF.out.2.1, HF.out.2.2]
        go_wp2_with fail
        refine (HA8.out.take (by omega) true 300).mono ?_
        rintro e w9 ⟨⟨A9, c9, rfl, hr9⟩, hA9⟩
        have HA9 := Lib.hid hA9
        obtain ⟨nl, hnl⟩ : ∃ nl, (outB (B1 true) 300).length = nl := ⟨_, rfl⟩
        obtain ⟨P9, hP9, hS9, hcv9⟩ := str17 _ (outB_in HA8.out true 300) nl hnl
        have hcv := hcv9 w9 A9 c9 hr9
        have hsc9 : scan true 200 (sb P9) = ([outF true draw (ctlF 8 ⟨#[3, 234]⟩)], [], 0) := by rw [hS9]; exact HS.out.1
        have hnl2 : nl ≤ 200 := by rw [← hnl]; exact HS.out.2.1
        rw [hnl]
        clear hA9 hr9 hcv9 hS9 hnl HA8
        go_wp2_with fail
        refine (all17_one (s := P9) (mk := true) (by omega) hsc9 _).mono ?_
        rintro e w10 ⟨g10, c10, rfl, hg10a, hg10, a1, a7, ht10⟩
        rw [(outF_data _ _ _).1] at a1
        rw [(outF_data _ _ _).2] at a7
        have HE10 := Lib.hid (HA9.out.e.grow ht10)
        have hE10 : Hid ((g10 < w2.heap.size ∨ (w9.heap.size ≤ g10 ∧ g10 < w10.heap.size))) := .inr ⟨hg10a, hg10⟩
        clear ht10 HA9 hsc9 hcv hP9
        go_wp2_with fail
        refine (HE10.out.take (by omega) false 300).mono ?_
        rintro e w11 ⟨⟨A11, c11, rfl, hr11⟩, hA11, ht11⟩
        have hk1 := HE10.out.cell ht11 hE10.out a1
        have hk7 := HE10.out.cell ht11 hE10.out a7
        have HA11 := Lib.hid hA11.at
        obtain ⟨nm, hnm⟩ : ∃ nm, (outB (B1.take K true 300 false) 300).length = nm := ⟨_, rfl⟩
        obtain ⟨P11, hP11, hS11, hcv11⟩ := str17 _ (outB_in HE10.out.at false 300) nm hnm
        have hcv := hcv11 w11 A11 c11 hr11
        have hsc11 : scan false 200 (sb P11) = ([outF false draw (ctlF 8 ⟨#[3, 233]⟩)], [], 0) := by rw [hS11]; exact HS.out.2.2.1
        have hnm2 : nm ≤ 200 := by rw [← hnm]; exact HS.out.2.2.2
        have hg11 : g10 < w11.heap.size := Nat.lt_of_lt_of_le hg10 ht11.size
        rw [hnm]
        clear hA11 hr11 hcv11 hS11 hnm HE10 hE10 a1 a7 ht11 hg10 hg10a
        go_wp2_with fail
        refine (all17_one (s := P11) (mk := false) (by omega) hsc11 _).mono ?_
        rintro e w12 ⟨g12, c12, rfl, hg12a, hg12, y1, y7, ht12⟩
        rw [(outF_data _ _ _).1] at y1
        rw [(outF_data _ _ _).2] at y7
        have a1 : w12.cell? ⟨g10, 1, none⟩ = some (.int .i64 8) := ht12.cell hk1
        have a7 : w12.cell? ⟨g10, 7, none⟩ = some (.string ⟨#[3, 234]⟩) := ht12.cell hk7
        have b1 : w12.cell? ⟨g12, 1, none⟩ = some (.int .i64 8) := y1
        have b7 : w12.cell? ⟨g12, 7, none⟩ = some (.string ⟨#[3, 233]⟩) := y7
        have hg10 : g10 < w12.heap.size := Nat.lt_of_lt_of_le hg11 ht12.size
        have HTF := Lib.hid (HT2.out.trans (HA11.out.no ht12).old)
        clear ht12 HA11 hsc11 hcv hP11 hk1 hk7 hg11 y1 y7
        have hpl : (code < 1000) ∨ (1003 < code ∧ code < 1007) ∨ (1011 < code ∧ code < 3000) ∨ (4999 < code) := by
          unfold valid11 at hv
          have := of_decide_eq_false hv
          omega
        have hwc : IntKind.i64.wrap code = code := IntWalk.i64_in _ (by have := HC0.out; omega)
        clear hv
        go_upto_region 16 with (fail)
        go_cut [131] (fun v wx => v = .bool false ∧ wx = w12)
        case first =>
          rcases hpl with hp | hp | hp | hp
          · have q0 : ¬ 1000 ≤ code := by omega
            have q1 : ¬ 1007 ≤ code := by omega
            have q2 : ¬ 3000 ≤ code := by omega
            go_wp2_with fail
            go_meet
            exact ⟨rfl, rfl⟩
          · have q0 : 1000 ≤ code := by omega
            have q1 : ¬ code ≤ 1003 := by omega
            have q2 : ¬ 1007 ≤ code := by omega
            have q3 : ¬ 3000 ≤ code := by omega
            go_wp2_with fail
            go_meet
            exact ⟨rfl, rfl⟩
          · have q0 : 1000 ≤ code := by omega
            have q1 : ¬ code ≤ 1003 := by omega
            have q2 : 1007 ≤ code := by omega
            have q3 : ¬ code ≤ 1011 := by omega
            have q4 : ¬ 3000 ≤ code := by omega
            go_wp2_with fail
            go_meet
            exact ⟨rfl, rfl⟩
          · have q0 : 1000 ≤ code := by omega
            have q1 : ¬ code ≤ 1003 := by omega
            have q2 : 1007 ≤ code := by omega
            have q3 : ¬ code ≤ 1011 := by omega
            have q4 : 3000 ≤ code := by omega
            have q5 : ¬ code ≤ 4999 := by omega
            go_wp2_with fail
            go_meet
            exact ⟨rfl, rfl⟩
        case rest =>
          obtain ⟨rfl, hwx⟩ := hcut
          obtain ⟨wf, rfl⟩ : ∃ w : World, w = wc := ⟨_, rfl⟩
          subst hwx
          clear hpl
          go_wp2_with fail
          go_ret
          exact ⟨rfl, HTF.out⟩
end Go.Proofs.YtlnabpoohnphiaaGreat
