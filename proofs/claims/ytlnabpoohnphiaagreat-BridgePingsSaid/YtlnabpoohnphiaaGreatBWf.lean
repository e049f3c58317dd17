/- law17: BridgePings. -/
import Derived.Test.YtlnabpoohnphiaaGreatB44
import Derived.Test.YtlnabpoohnphiaaGreatB45
namespace Go.Proofs.YtlnabpoohnphiaaGreat
open Go.RowKit
set_option linter.unusedSimpArgs false
set_option linter.unusedVariables false

set_option maxHeartbeats 12800000 in
set_option maxRecDepth 100000 in
theorem pings17_row (w : World) (A : Option Addr) (ls : List ByteArray) (c : Nat) (hr : Rd w A (ls.flatMap fun x => [.string x])) (hg : ∀ x ∈ ls, x.size ≤ maxLen) (hlc : ls.length ≤ c) (hcc : c ≤ maxLen) (pong : Bool) :
    Calls Tryz.prog 5 #[.slice A ls.length c, .bool pong] w fun e w' => e = .returned (.bool true) ∧ Touch NoS w w' := by
  have HR := Lib.hid hr
  have HG := Lib.hid hg
  obtain ⟨n, hn⟩ : ∃ n, n = ls.length := ⟨_, rfl⟩
  rw [← hn] at hlc ⊢
  have HN := Lib.hid hn.symm
  have hnm : n ≤ maxLen := by omega
  unfold maxLen at hnm
  clear hr hg hn hcc
  go_enter Tryz.func5, Tryz.ntmps5
  go_wp2_with fail
  refine (l_cfg17 99 99 250 3 99 (by omega) (by omega) (by omega) (by omega) (by omega) _).mono ?_
  rintro e w2 ⟨b, rfl, hbr, ht⟩
  have HT2 := Lib.hid ht
  have HNEW := Lib.hid (a_new b (1 + 99) (1 + 99) (1 + 3 % 8) (1 + 99 + 99) (1 + 250) (by omega) (by omega) (by omega) (by omega) (by omega) (by omega) (by omega) (by omega) (by omega) (by omega) 1 w2 hbr)
  clear ht hbr
  unfold cfgW
  unfold cfgW at HNEW
  go_wp2_with fail
  refine HNEW.out.mono ?_
  rintro e w3 ⟨g, gl, gq, X, K, rfl, k1, k2, k3, k4, k5, k6, k7, hA⟩
  have HK := Lib.hid (And.intro k1 (And.intro k2 (And.intro k3 (And.intro k4 (And.intro k5 (And.intro k6 k7))))))
  have HA3 := Lib.hid hA
  clear hA k1 k2 k3 k4 k5 k6 k7 HNEW
  go_wp2_with fail
  refine (aw17 _).mono ?_
  rintro e w4 ⟨rfl, ht⟩
  have HA4 := Lib.hid (HA3.out.no ht)
  clear ht HA3
  have HRM : Hid (roomL K [] K.message = true) := room_idle HK.out.1 HK.out.2.1 HK.out.2.2.1
  by_cases h10 : n ≤ 10
  · have h10i : (n : Int) ≤ 10 := by omega
    cases pong with
    | false =>
      go_wp2_with fail
      go_loopw [8, 9, 10, 11, 12] (fun iv _ _ _ _ wr => ∃ (i : Nat) (dr : Int), i ≤ n ∧ iv = .int .i64 i ∧ At17 w2 wr g X K gl gq 0 (two17 (1 + 99) 1 dr)) (fun iv _ _ _ _ _ => n - (intOf iv).toNat)
      case atStart => exact ⟨0, 1, Nat.zero_le _, rfl, by rw [two17_new] at HA4; exact HA4.out⟩
      case round =>
        obtain ⟨i, dr, hin, rfl, hA⟩ := hrel
        have HA := Lib.hid hA
        clear hA HA4
        by_cases hlt : i < n
        · have hil : i < ls.length := by rw [HN.out]; exact hlt
          obtain ⟨ga, oa, rfl, hga0, a0x⟩ := str_at (HR.out.touch_no HT2.out) i hil
          have hce : ∀ W, Touch NoS w2 W → W.cell? ⟨ga, oa + i, none⟩ = some (.string ls[i]) := fun W t => t.cell a0x
          have a0 := hce _ HA.out.old
          have hga := Nat.lt_of_lt_of_le hga0 HA.out.old.size
          have hgd := HG.out ls[i] (List.getElem_mem hil)
          obtain ⟨x, hx⟩ : ∃ x, x = ls[i] := ⟨_, rfl⟩
          rw [← hx] at a0 hgd hce
          have HCE := Lib.hid hce
          unfold maxLen at hgd
          clear hx hil a0x hce
          by_cases h3 : x.size ≤ 100
          · have h3i : (x.size : Int) ≤ 100 := by omega
            have hmk := (HK.out.2.2.2.2.2.2 true).2.2.2
            obtain ⟨-, hfl, hfm, hfg, hfb⟩ := ctl_fits (op := 9) (by simp) h3 hmk (by unfold most16; omega)
            obtain ⟨nn, hnn⟩ : ∃ nn, (fput (ctlF 9 x)).length = nn := ⟨_, rfl⟩
            rw [hnn] at hfl
            obtain ⟨P, hPz, hPs, hPT⟩ := text17 (ctlF 9 x) hfg hfm (by show x.size ≤ 1000000; omega) nn hnn hfb
            have HPT := Lib.hid hPT
            obtain ⟨W2, cp, hW2⟩ := conv_of2 P nn hPz
            have hc2 := fun W => (hW2 W).1
            have HC3 := Lib.hid (fun W => (hW2 W).2)
            obtain ⟨hf1, hb0, hb1, htk⟩ := ping17 (K := K) (M := 1 + 99) (d1 := 1) (d := dr) (HK.out.2.2.2.2.2.2 true).2.2.2 (by rw [(HK.out.2.2.2.2.2.2 true).2.2.1]; omega) HRM.out x h3
            have hf2 : ((two17 (1 + 99) 1 dr).feed K true (fput (ctlF 9 x))).2 = nn := by rw [hf1]; exact hnn
            obtain ⟨d2, hd2⟩ : ∃ x, x = outD true dr := ⟨_, rfl⟩
            obtain ⟨OB, hOB⟩ : ∃ y, y = fput (outF true dr (ctlF 10 x)) := ⟨_, rfl⟩
            have hx125 : x.size ≤ 125 := by omega
            have hsc : scan true 200 OB = ([outF true dr (ctlF 10 x)], [], 0) := by rw [hOB]; exact outF_scan (okC.ctl (.inr (.inr rfl)) hx125)
            have hOBl : OB.length ≤ 200 := by
              rw [hOB]
              obtain ⟨-, -, h3, -⟩ := outF_ok (mk := true) (d := dr) (okC.ctl (op := 10) (.inr (.inr rfl)) hx125)
              omega

            have HFD : Hid (∀ W W' b q, Touch NoS wr W → Touch NoS W W' → W.heap.size ≤ b → b < W'.heap.size → nn ≤ q → Rd W' (some ⟨b, 0, none⟩) (u8s (fput (ctlF 9 x))) → Calls Tryz.prog 17 #[.pointer (some ⟨g, 0, none⟩), .int .i64 1, .slice (some ⟨b, 0, none⟩) nn q] W' fun e w' => e = .returned (.int .i64 nn) ∧ At17 w2 w' g X K gl gq 0 ((two17 (1 + 99) 1 dr).feed K true (fput (ctlF 9 x))).1) := fun W W' b q t t' h1 h2 h3 h4 => by
              refine ((HA.out.no t).feed (by omega) true _ hfb (by omega) W' t' b nn q h1 h2 hnn h3 h4).mono ?_
              rintro e w' ⟨rfl, h⟩
              rw [hf2]
              exact ⟨rfl, h⟩
            obtain ⟨B1, hB1⟩ : ∃ y, y = ((two17 (1 + 99) 1 dr).feed K true (fput (ctlF 9 x))).1 := ⟨_, rfl⟩
            rw [← hB1] at HFD hb0 hb1 htk
            rw [← hOB] at hb1
            rw [← hd2] at htk
            have HF := Lib.hid (And.intro hb0 (And.intro hb1 htk))
            have HSC := Lib.hid hsc
            rw [hPs] at HC3
            clear hW2 hPT hPs hf2 hb0 hb1 htk hB1 hsc hOB hd2 hnn hfb hfg hfm hf1 hx125
            go_wp2_with fail
            refine (HPT.out _).mono ?_
            rintro e w6 ⟨rfl, ht6⟩
            have HT6 := Lib.hid ht6
            clear ht6
            go_upto_region 13 with (fail)
            go_cut [67] (fun v wx => v = .bool false ∧ At17 w2 wx g X K gl gq 0 B1)
            case first =>
              go_wp2_with fail
              have h3c := HC3.out w6
              refine (HFD.out w6 _ _ _ HT6.out h3c.1 (Nat.le_refl _) h3c.2.2.1 h3c.2.2.2 h3c.2.1).mono ?_
              rintro e w7 ⟨rfl, hA7⟩
              have HA7 := Lib.hid hA7
              clear hA7 h3c
              go_wp2_with fail
              refine (HA7.out.peek false 9).mono ?_
              rintro e w8 ⟨A8, c8, rfl, -, ht8⟩
              rw [HF.out.1]
              have HA8 := Lib.hid (HA7.out.no ht8)
              clear ht8
              go_wp2_with fail
              go_meet
              exact ⟨rfl, HA8.out⟩
            case rest =>
              obtain ⟨rfl, hA8⟩ := hcut
              obtain ⟨wd, rfl⟩ : ∃ we : World, we = wc := ⟨_, rfl⟩
              have HA8 := Lib.hid hA8
              clear hA8 hc2 HC3 HFD HPT HT6 HA a0
              go_wp2_with fail
              refine (HA8.out.take (by omega) true 300).mono ?_
              rintro e w9 ⟨⟨A9, c9, rfl, hr9⟩, hA9⟩
              rw [HF.out.2.2] at hA9
              have hin9 := outB_in HA8.out true 300
              rw [HF.out.2.1] at hr9 hin9 ⊢
              obtain ⟨nl, hnl⟩ : ∃ nl, OB.length = nl := ⟨_, rfl⟩
              obtain ⟨P9, hP9, hS9, hcv9⟩ := str17 OB hin9 nl hnl
              have hcv := hcv9 w9 A9 c9 hr9
              have hsc9 : scan true 200 (sb P9) = ([outF true dr (ctlF 10 x)], [], 0) := by rw [hS9]; exact HSC.out
              have HA9 := Lib.hid hA9
              rw [hnl] at hOBl ⊢
              clear hA9 hr9 hin9 hcv9 hS9 hnl HA8
              go_wp2_with fail
              refine (all17_one (s := P9) (mk := true) (by omega) hsc9 _).mono ?_
              rintro e w10 ⟨g10, c10, rfl, -, hg10, a1, a7, ht10⟩
              have HA10 := Lib.hid (HA9.out.no ht10)
              have a1' : w10.cell? ⟨g10, 1, none⟩ = some (.int .i64 10) := a1
              have a7' : w10.cell? ⟨g10, 7, none⟩ = some (.string x) := a7
              have z0 := HCE.out w10 HA10.out.old
              have hga10 := Nat.lt_of_lt_of_le hga0 HA10.out.old.size
              clear ht10 HA9 hsc9 a1 a7
              go_wp2_with fail
              go_quiet (fail)
              go_wp2_with fail
              go_roundw
              · exact ⟨i + 1, d2, by omega, by go_num, HA10.out.no (Touch.drewN (Touch.refl _ _) _)⟩
              · simp [intOf]; omega
          · have h3i : ¬ ((x.size : Int) ≤ 100) := by omega
            have HTF := Lib.hid (HT2.out.trans HA.out.old)
            go_wp2_with fail
            go_ret
            exact ⟨rfl, HTF.out⟩
        · have hge : ¬ ((i : Int) < n) := by omega
          have HTF := Lib.hid (HT2.out.trans HA.out.old)
          go_wp2_with fail
          go_ret
          exact ⟨rfl, HTF.out⟩
    | true =>
      go_wp2_with fail
      go_loopw [8, 9, 10, 11, 12] (fun iv _ _ _ _ wr => ∃ (i : Nat) (dr : Int), i ≤ n ∧ iv = .int .i64 i ∧ At17 w2 wr g X K gl gq 0 (two17 (1 + 99) 1 dr)) (fun iv _ _ _ _ _ => n - (intOf iv).toNat)
      case atStart => exact ⟨0, 1, Nat.zero_le _, rfl, by rw [two17_new] at HA4; exact HA4.out⟩
      case round =>
        obtain ⟨i, dr, hin, rfl, hA⟩ := hrel
        have HA := Lib.hid hA
        clear hA HA4
        by_cases hlt : i < n
        · have hil : i < ls.length := by rw [HN.out]; exact hlt
          obtain ⟨ga, oa, rfl, hga0, a0x⟩ := str_at (HR.out.touch_no HT2.out) i hil
          have hce : ∀ W, Touch NoS w2 W → W.cell? ⟨ga, oa + i, none⟩ = some (.string ls[i]) := fun W t => t.cell a0x
          have a0 := hce _ HA.out.old
          have hga := Nat.lt_of_lt_of_le hga0 HA.out.old.size
          have hgd := HG.out ls[i] (List.getElem_mem hil)
          obtain ⟨x, hx⟩ : ∃ x, x = ls[i] := ⟨_, rfl⟩
          rw [← hx] at a0 hgd hce
          have HCE := Lib.hid hce
          unfold maxLen at hgd
          clear hx hil a0x hce
          by_cases h3 : x.size ≤ 100
          · have h3i : (x.size : Int) ≤ 100 := by omega
            have hmk := (HK.out.2.2.2.2.2.2 true).2.2.2
            obtain ⟨-, hfl, hfm, hfg, hfb⟩ := ctl_fits (op := 10) (by simp) h3 hmk (by unfold most16; omega)
            obtain ⟨nn, hnn⟩ : ∃ nn, (fput (ctlF 10 x)).length = nn := ⟨_, rfl⟩
            rw [hnn] at hfl
            obtain ⟨P, hPz, hPs, hPT⟩ := text17 (ctlF 10 x) hfg hfm (by show x.size ≤ 1000000; omega) nn hnn hfb
            have HPT := Lib.hid hPT
            obtain ⟨W2, cp, hW2⟩ := conv_of2 P nn hPz
            have hc2 := fun W => (hW2 W).1
            have HC3 := Lib.hid (fun W => (hW2 W).2)
            have hfd := pong17 (K := K) (M := 1 + 99) (d1 := 1) (d := dr) (HK.out.2.2.2.2.2.2 true).2.2.2 HRM.out x h3
            have hf2 : ((two17 (1 + 99) 1 dr).feed K true (fput (ctlF 10 x))).2 = nn := by rw [hfd]; exact hnn
            have hb0 : outB (((two17 (1 + 99) 1 dr).feed K true (fput (ctlF 10 x))).1 false) 9 = [] := by rw [hfd]; exact (two17_take (K := K) false 9).1
            have hb1 : outB (((two17 (1 + 99) 1 dr).feed K true (fput (ctlF 10 x))).1 true) 300 = [] := by rw [hfd]; exact (two17_take (K := K) true 300).1
            have htk : ((two17 (1 + 99) 1 dr).feed K true (fput (ctlF 10 x))).1.take K true 300 = two17 (1 + 99) 1 dr := by rw [hfd]; exact (two17_take (K := K) true 300).2
            obtain ⟨d2, hd2⟩ : ∃ x, x = dr := ⟨_, rfl⟩
            obtain ⟨OB, hOB⟩ : ∃ x : List Int, x = [] := ⟨_, rfl⟩
            have hsc : scan true 200 OB = ([], [], 0) := by rw [hOB]; exact scan_none _ _
            have hOBl : OB.length ≤ 200 := by rw [hOB]; exact Nat.zero_le _

            have HFD : Hid (∀ W W' b q, Touch NoS wr W → Touch NoS W W' → W.heap.size ≤ b → b < W'.heap.size → nn ≤ q → Rd W' (some ⟨b, 0, none⟩) (u8s (fput (ctlF 10 x))) → Calls Tryz.prog 17 #[.pointer (some ⟨g, 0, none⟩), .int .i64 1, .slice (some ⟨b, 0, none⟩) nn q] W' fun e w' => e = .returned (.int .i64 nn) ∧ At17 w2 w' g X K gl gq 0 ((two17 (1 + 99) 1 dr).feed K true (fput (ctlF 10 x))).1) := fun W W' b q t t' h1 h2 h3 h4 => by
              refine ((HA.out.no t).feed (by omega) true _ hfb (by omega) W' t' b nn q h1 h2 hnn h3 h4).mono ?_
              rintro e w' ⟨rfl, h⟩
              rw [hf2]
              exact ⟨rfl, h⟩
            obtain ⟨B1, hB1⟩ : ∃ y, y = ((two17 (1 + 99) 1 dr).feed K true (fput (ctlF 10 x))).1 := ⟨_, rfl⟩
            rw [← hB1] at HFD hb0 hb1 htk
            rw [← hOB] at hb1
            rw [← hd2] at htk
            have HF := Lib.hid (And.intro hb0 (And.intro hb1 htk))
            have HSC := Lib.hid hsc
            rw [hPs] at HC3
            clear hW2 hPT hPs hf2 hb0 hb1 htk hB1 hsc hOB hd2 hnn hfb hfg hfm hfd
            go_wp2_with fail
            refine (HPT.out _).mono ?_
            rintro e w6 ⟨rfl, ht6⟩
            have HT6 := Lib.hid ht6
            clear ht6
            go_upto_region 13 with (fail)
            go_cut [67] (fun v wx => v = .bool false ∧ At17 w2 wx g X K gl gq 0 B1)
            case first =>
              go_wp2_with fail
              have h3c := HC3.out w6
              refine (HFD.out w6 _ _ _ HT6.out h3c.1 (Nat.le_refl _) h3c.2.2.1 h3c.2.2.2 h3c.2.1).mono ?_
              rintro e w7 ⟨rfl, hA7⟩
              have HA7 := Lib.hid hA7
              clear hA7 h3c
              go_wp2_with fail
              refine (HA7.out.peek false 9).mono ?_
              rintro e w8 ⟨A8, c8, rfl, -, ht8⟩
              rw [HF.out.1]
              have HA8 := Lib.hid (HA7.out.no ht8)
              clear ht8
              go_wp2_with fail
              go_meet
              exact ⟨rfl, HA8.out⟩
            case rest =>
              obtain ⟨rfl, hA8⟩ := hcut
              obtain ⟨wd, rfl⟩ : ∃ we : World, we = wc := ⟨_, rfl⟩
              have HA8 := Lib.hid hA8
              clear hA8 hc2 HC3 HFD HPT HT6 HA a0
              go_wp2_with fail
              refine (HA8.out.take (by omega) true 300).mono ?_
              rintro e w9 ⟨⟨A9, c9, rfl, hr9⟩, hA9⟩
              rw [HF.out.2.2] at hA9
              have hin9 := outB_in HA8.out true 300
              rw [HF.out.2.1] at hr9 hin9 ⊢
              obtain ⟨nl, hnl⟩ : ∃ nl, OB.length = nl := ⟨_, rfl⟩
              obtain ⟨P9, hP9, hS9, hcv9⟩ := str17 OB hin9 nl hnl
              have hcv := hcv9 w9 A9 c9 hr9
              have hsc9 : scan true 200 (sb P9) = ([], [], 0) := by rw [hS9]; exact HSC.out
              have HA9 := Lib.hid hA9
              rw [hnl] at hOBl ⊢
              clear hA9 hr9 hin9 hcv9 hS9 hnl HA8
              go_wp2_with fail
              refine (all17_none (s := P9) (mk := true) (by omega) hsc9 _).mono ?_
              rintro e w10 ⟨A10, c10, rfl, ht10⟩
              have HA10 := Lib.hid (HA9.out.no ht10)
              clear ht10 HA9 hsc9
              go_wp2_with fail
              go_quiet (fail)
              go_wp2_with fail
              go_roundw
              · exact ⟨i + 1, d2, by omega, by go_num, HA10.out.no (Touch.drewN (Touch.refl _ _) _)⟩
              · simp [intOf]; omega
          · have h3i : ¬ ((x.size : Int) ≤ 100) := by omega
            have HTF := Lib.hid (HT2.out.trans HA.out.old)
            go_wp2_with fail
            go_ret
            exact ⟨rfl, HTF.out⟩
        · have hge : ¬ ((i : Int) < n) := by omega
          have HTF := Lib.hid (HT2.out.trans HA.out.old)
          go_wp2_with fail
          go_ret
          exact ⟨rfl, HTF.out⟩
  · have h10i : ¬ ((n : Int) ≤ 10) := by omega
    go_wp2_with fail
    refine (aw17 _).mono ?_
    rintro e w5 ⟨rfl, ht⟩
    have HTF := Lib.hid ((HT2.out.trans HA4.out.old).trans ht)
    clear ht
    go_wp2_with fail
    go_ret
    exact ⟨rfl, HTF.out⟩
end Go.Proofs.YtlnabpoohnphiaaGreat
