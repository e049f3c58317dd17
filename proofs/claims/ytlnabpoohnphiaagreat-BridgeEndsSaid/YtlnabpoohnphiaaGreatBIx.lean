/- law17: BridgeEnds. -/
import Derived.Test.YtlnabpoohnphiaaGreatBIw
namespace Go.Proofs.YtlnabpoohnphiaaGreat
open Go.RowKit
set_option linter.unusedSimpArgs false
set_option linter.unusedVariables false

set_option maxHeartbeats 12800000 in
set_option maxRecDepth 100000 in
theorem ends17_row (w : World) (xa xb xc xd xe : Int) (gx : bytesIn [xa, xb, xc, xd, xe]) (draw : Int) (gd : (Lit.int .u32 draw).wf = true) (A : Option Addr) (ls : List Act2) (c : Nat) (hr : Rd w A (ls.flatMap Act2.cl)) (hg : ∀ x ∈ ls, x.good) (hlc : ls.length ≤ c) (hcc : c ≤ maxLen) :
    Calls Tryz.prog 10 #[.agg #[.int .u8 xa, .int .u8 xb, .int .u8 xc, .int .u8 xd, .int .u8 xe], .int .u32 draw, .slice A ls.length c] w fun e w' => e = .returned (.bool true) ∧ Touch NoS w w' := by
  obtain ⟨ma, rfl, hma⟩ := u8_nn (gx xa (by simp))
  obtain ⟨mb, rfl, hmb⟩ := u8_nn (gx xb (by simp))
  obtain ⟨mc, rfl, hmc⟩ := u8_nn (gx xc (by simp))
  obtain ⟨md, rfl, hmd⟩ := u8_nn (gx xd (by simp))
  obtain ⟨me, rfl, hme⟩ := u8_nn (gx xe (by simp))
  have HR := Lib.hid hr
  have HG := Lib.hid hg
  obtain ⟨n, hn⟩ : ∃ n, n = ls.length := ⟨_, rfl⟩
  rw [← hn] at hlc ⊢
  have HN := Lib.hid hn.symm
  have hnm : n ≤ maxLen := by omega
  unfold maxLen at hnm
  clear hr hg hn hcc gx
  go_enter Tryz.func10, Tryz.ntmps10
  go_wp2_with fail
  refine (l_cfg17 ma mb mc md me hma hmb hmc hmd hme _).mono ?_
  rintro e w1 ⟨b, rfl, hbr, ht⟩
  have HT1 := Lib.hid (((Touch.refl NoS w).alloc (.cells #[.int .u8 ma, .int .u8 mb, .int .u8 mc, .int .u8 md, .int .u8 me] 22)).trans ht)
  have hsz1 := HT1.out.size
  have HBR := Lib.hid hbr
  clear ht hbr
  unfold cfgW
  obtain ⟨Q, hQ⟩ : ∃ Q, Q = 1 + ma + me := ⟨_, rfl⟩
  obtain ⟨M, hM⟩ : ∃ M, M = 1 + ma := ⟨_, rfl⟩
  obtain ⟨F, hF⟩ : ∃ F, F = 1 + mb := ⟨_, rfl⟩
  obtain ⟨O, hO⟩ : ∃ O, O = 1 + mc := ⟨_, rfl⟩
  obtain ⟨C, hC⟩ : ∃ C, C = 1 + md % 8 := ⟨_, rfl⟩
  rw [← hQ, ← hM, ← hF, ← hO, ← hC]
  have hM1 : 1 ≤ M ∧ M ≤ 256 ∧ M ≤ Q ∧ Q ≤ 511 := by omega
  have hF1 : 1 ≤ F ∧ F ≤ 256 := by omega
  have hO1 : 1 ≤ O ∧ O ≤ 256 := by omega
  have hC1 : 1 ≤ C ∧ C ≤ 8 := by omega
  clear hM hF hO hC hQ hma hmb hmc hmd hme
  go_wp2_with fail
  obtain ⟨w2, hw2⟩ : ∃ w2, w2 = w1.alloc (.cells (cfgW b M F C Q O) 29) := ⟨_, rfl⟩
  obtain ⟨gc, hgc⟩ : ∃ g, g = w1.heap.size := ⟨_, rfl⟩
  have hbc : Blk w2 gc 29 (cfgW b M F C Q O) := by rw [hw2, hgc]; exact Blk.new _ _ _
  have HT2 : Hid (Touch NoS w w2) := by rw [hw2]; exact HT1.out.alloc _
  have HBR2 : Hid (Blk w2 b 101 #[.string ⟨#[47]⟩, .string ⟨#[]⟩, .string ⟨#[120]⟩]) := by rw [hw2]; exact HBR.out.alloc _
  have HBC := Lib.hid hbc
  have HNEW := Lib.hid (a_new b M F C Q O hM1.1 hM1.2.2.1 (by omega) hM1.2.1 hC1.1 hC1.2 hF1.1 hF1.2 hO1.1 hO1.2 draw w2 HBR2.out)
  unfold cfgW at hw2 HNEW
  rw [← hw2, ← hgc]
  clear hw2 hgc hbc HBR HBR2 HT1 hsz1
  refine HNEW.out.mono ?_
  rintro e w3 ⟨g, gl, gq, X, K, rfl, k1, k2, k3, k4, k5, k6, k7, hA⟩
  have HK := Lib.hid (And.intro k1 (And.intro k2 (And.intro k3 (And.intro k4 (And.intro k5 (And.intro k6 k7))))))
  have HA3 := Lib.hid hA
  clear hA k1 k2 k3 k4 k5 k6 k7 HNEW
  go_wp2_with fail
  refine (aw17 _).mono ?_
  rintro e w4 ⟨rfl, ht⟩
  have HA4 := Lib.hid (HA3.out.no ht)
  clear ht HA3
  go_wp2_with fail
  go_loopw [10] (fun iv wr => ∃ (i : Nat) (B : Br), i ≤ n ∧ i ≤ 20 ∧ iv = .int .i64 i ∧ At17 w2 wr g X K gl gq (2 * i) B) (fun iv _ => n - (intOf iv).toNat)
  case atStart => exact ⟨0, _, Nat.zero_le _, by omega, rfl, HA4.out⟩
  case round =>
    obtain ⟨i, B, hin, hi20, rfl, hA⟩ := hrel
    have HA := Lib.hid hA
    clear hA HA4
    obtain ⟨we, hwe⟩ : ∃ we : World, we = wr := ⟨_, rfl⟩
    subst hwe
    obtain ⟨bb, hbb⟩ : ∃ b, b = (decide (i < n) && decide (i < 20)) := ⟨_, rfl⟩
    go_upto_region 6 with (fail)
    go_cut [40] (fun v wx => v = .bool bb ∧ wx = we)
    case first =>
      by_cases hlt : i < n
      · rw [decide_eq_true hlt, Bool.true_and] at hbb
        by_cases hlt2 : i < 20
        · rw [decide_eq_true hlt2] at hbb
          have hlt3 : (i : Int) < 20 := by omega
          have hlt4 : decide ((i : Int) < 20) = true := decide_eq_true hlt3
          go_wp2_with fail
          go_meet
          exact ⟨by rw [hbb], rfl⟩
        · rw [decide_eq_false hlt2] at hbb
          have hlt3 : ¬ ((i : Int) < 20) := by omega
          go_wp2_with fail
          go_meet
          exact ⟨by rw [hbb], rfl⟩
      · rw [decide_eq_false hlt, Bool.false_and] at hbb
        have hlt3 : ¬ ((i : Int) < n) := by omega
        go_wp2_with fail
        go_meet
        exact ⟨by rw [hbb], rfl⟩
    case rest =>
      obtain ⟨rfl, hwx⟩ := hcut
      obtain ⟨wd, rfl⟩ : ∃ w : World, w = wc := ⟨_, rfl⟩
      subst hwx
      cases bb with
      | true =>
        have hb2 : i < n ∧ i < 20 := by simpa using hbb.symm
        obtain ⟨hlt, hlt2⟩ := hb2
        have hil : i < ls.length := by rw [HN.out]; exact hlt
        obtain ⟨ga, oa, rfl, hga, a0, a1, a2, a3⟩ := act2_cells (HR.out.touch_no (HT2.out.trans HA.out.old)) i hil
        have hgd := HG.out ls[i] (List.getElem_mem hil)
        obtain ⟨x, hx⟩ : ∃ x, x = ls[i] := ⟨_, rfl⟩
        rw [← hx] at a0 a1 a2 a3 hgd
        have HFEW := Lib.hid (fun W => l_few17 x hgd W)
        have HPL : Hid (∀ W, Touch NoS wd W → x.s.size ≤ 300 → Calls Tryz.prog 29 #[.pointer (some ⟨g, 0, none⟩), .agg #[.int .i64 x.kind, .int .i64 x.side, .int .i64 x.n, .string x.s]] W fun e w' => e = .returned (.tuple #[]) ∧ At17 w2 w' g X K gl gq (2 * i + 2) (B.play K x)) := fun W t h => (HA.out.no t).play (by omega) x h
        obtain ⟨kind, side, na, sa⟩ := x
        simp only at a0 a1 a2 a3 HFEW HPL
        clear hx hgd hil hbb
        go_wp2_with fail
        refine (HFEW.out _).mono ?_
        rintro e w5 ⟨rfl, ht5⟩
        have hb5 := (Blk.new _ 64 #[.int .i64 kind, .int .i64 side, .int .i64 na, .string sa]).touch ht5 (fun h => h)
        have HT5 := Lib.hid (((Touch.refl NoS wd).alloc (.cells #[.int .i64 kind, .int .i64 side, .int .i64 na, .string sa] 64)).trans ht5)
        have b0 := hb5.cell 0
        have b1 := hb5.cell 1
        have b2 := hb5.cell 2
        have b3 := hb5.cell 3
        have bl := hb5.lt
        simp at b0 b1 b2 b3
        obtain ⟨gx, hgx⟩ : ∃ g, g = wd.heap.size := ⟨_, rfl⟩
        rw [← hgx] at b0 b1 b2 b3 bl ⊢
        clear ht5 hb5 HFEW a0 a1 a2 a3 hga hgx
        by_cases hfew : sa.size ≤ 300
        · rw [decide_eq_true hfew]
          have HP5 := Lib.hid (HPL.out _ HT5.out hfew)
          clear HPL
          go_wp2_with fail
          refine HP5.out.mono ?_
          rintro e w6 ⟨rfl, hA6⟩
          have HA6 : Hid (At17 w2 w6 g X K gl gq (2 * (i + 1)) (B.play K ⟨kind, side, na, sa⟩)) := hA6
          clear hA6 b0 b1 b2 b3 bl HP5 HA
          go_wp2_with fail
          go_roundw
          · exact ⟨i + 1, _, by omega, by omega, by go_num, HA6.out⟩
          · simp [intOf]; omega
        · rw [decide_eq_false hfew]
          have HA6 := Lib.hid ((HA.out.no HT5.out).mono (show 2 * i ≤ 2 * (i + 1) by omega))
          clear HPL b0 b1 b2 b3 bl HA
          go_wp2_with fail
          go_roundw
          · exact ⟨i + 1, _, by omega, by omega, by go_num, HA6.out⟩
          · simp [intOf]; omega
      | false =>
        clear hbb hin
        have HA0 := Lib.hid (HA.out.mono (show 2 * i ≤ 40 by omega))
        clear HA
        go_wp2_with fail
        go_loopw [12] (fun iv wr => ∃ (m : Nat) (B1 : Br), m ≤ 10 ∧ iv = .int .i64 m ∧ At17 w2 wr g X K gl gq (40 + 2 * m) B1 ∧ Hid (∀ j, (B1 j).rank ≤ 2 - m)) (fun iv _ => 10 - (intOf iv).toNat)
        case atStart => exact ⟨0, B, by omega, rfl, HA0.out, fun j => rank_le2 _⟩
        case round =>
          obtain ⟨m, B1, hm, rfl, hA, hrk⟩ := hrel
          have HA := Lib.hid hA
          have HRK := Lib.hid (show ∀ j, (B1 j).rank ≤ 2 - m from hrk)
          clear hA hrk HA0
          obtain ⟨we, hwe⟩ : ∃ we : World, we = wr := ⟨_, rfl⟩
          subst hwe
          obtain ⟨ov, hov⟩ : ∃ b, b = B1.over := ⟨_, rfl⟩
          obtain ⟨bb, hbb⟩ : ∃ b, b = (decide (m < 10) && !ov) := ⟨_, rfl⟩
          have HOV := Lib.hid hov
          have HBO := Lib.hid (b_over HA.out.is)
          rw [← hov] at HBO
          clear hov
          go_upto_region 12 with (fail)
          go_cut [58] (fun v wx => v = .bool bb ∧ wx = we)
          case first =>
            by_cases hlt : m < 10
            · rw [decide_eq_true hlt, Bool.true_and] at hbb
              have hlt3 : (m : Int) < 10 := by omega
              go_wp2_with fail
              refine HBO.out.mono ?_
              rintro e w6 ⟨rfl, rfl⟩
              go_wp2_with fail
              go_meet
              exact ⟨by rw [hbb], rfl⟩
            · rw [decide_eq_false hlt, Bool.false_and] at hbb
              have hlt3 : ¬ ((m : Int) < 10) := by omega
              go_wp2_with fail
              go_meet
              exact ⟨by rw [hbb], rfl⟩
          case rest =>
            obtain ⟨rfl, hwx⟩ := hcut
            obtain ⟨wd, rfl⟩ : ∃ w : World, w = wc := ⟨_, rfl⟩
            subst hwx
            cases bb with
            | true =>
              have hb2 : m < 10 ∧ ov = false := by simpa using hbb.symm
              have hlt := hb2.1
              clear hbb hb2 HOV HBO
              go_wp2_with fail
              go_loopw [13] (fun iv wr => ∃ (j : Nat) (B2 : Br), j ≤ 2 ∧ iv = .int .i64 j ∧ At17 w2 wr g X K gl gq (40 + 2 * m) B2 ∧ Hid (∀ j, (B2 j).rank ≤ 2 - m)) (fun iv _ => 2 - (intOf iv).toNat)
              case atStart => exact ⟨0, B1, by omega, rfl, HA.out, HRK.out⟩
              case round =>
                obtain ⟨j, B2, hj, rfl, hA2, hrk2⟩ := hrel
                have HA2 := Lib.hid hA2
                have HRK2 := Lib.hid (show ∀ j, (B2 j).rank ≤ 2 - m from hrk2)
                clear hA2 hrk2 HA HRK
                by_cases hj2 : j < 2
                · obtain ⟨s, hs⟩ := bool_of hj2
                  have hj2i : (j : Int) < 2 := by omega
                  go_wp2_with fail
                  go_loopw [14] (fun iv wr => ∃ (k : Nat) (B3 : Br), k ≤ 2000 ∧ iv = .int .i64 k ∧ At17 w2 wr g X K gl gq (40 + 2 * m) B3 ∧ Hid (∀ j, (B3 j).rank ≤ 2 - m)) (fun iv _ => 2000 - (intOf iv).toNat)
                  case atStart => exact ⟨0, B2, by omega, rfl, HA2.out, HRK2.out⟩
                  case round =>
                    obtain ⟨k, B3, hk, rfl, hA3, hrk3⟩ := hrel
                    have HA3 := Lib.hid hA3
                    have HRK3 := Lib.hid (show ∀ j, (B3 j).rank ≤ 2 - m from hrk3)
                    clear hA3 hrk3 HA2 HRK2
                    by_cases hk2 : k < 2000
                    · have hk2i : (k : Int) < 2000 := by omega
                      have HPK := Lib.hid (HA3.out.peek s 1)
                      have HTK := Lib.hid (fun W (t : Touch NoS wr W) => (HA3.out.no t).take (by omega) s 1000)
                      rw [hs] at HPK HTK
                      obtain ⟨R, hR⟩ : ∃ x, x = (outB (B3 s) 1).length := ⟨_, rfl⟩
                      rw [← hR] at HPK
                      have HRK4 : Hid (∀ j, (B3.take K s 1000 j).rank ≤ 2 - m) := fun j => Nat.le_trans (rank_take K B3 s 1000 j) (HRK3.out j)
                      clear hR
                      go_wp2_with fail
                      refine HPK.out.mono ?_
                      rintro e w8 ⟨A8, c8, rfl, -, ht8⟩
                      have HT8 := Lib.hid ht8
                      clear ht8 HPK
                      by_cases hl : 0 < R
                      · go_wp2_with fail
                        refine (HTK.out _ HT8.out).mono ?_
                        rintro e w9 ⟨⟨A9, c9, rfl, -⟩, hA9⟩
                        have HA9 := Lib.hid hA9
                        clear hA9 HTK HA3
                        go_wp2_with fail
                        go_roundw
                        · exact ⟨k + 1, _, by omega, by go_num, HA9.out, HRK4.out⟩
                        · simp [intOf]; omega
                      · have HA9 := Lib.hid (HA3.out.no HT8.out)
                        clear HTK HA3
                        go_wp2_with fail
                        go_roundw
                        · exact ⟨j + 1, B3, by omega, by go_num, HA9.out, HRK3.out⟩
                        · simp [intOf]; omega
                    · have hk3 : ¬ ((k : Int) < 2000) := by omega
                      go_wp2_with fail
                      go_roundw
                      · exact ⟨j + 1, B3, by omega, by go_num, HA3.out, HRK3.out⟩
                      · simp [intOf]; omega
                · have hj3 : j = 2 := by omega
                  subst hj3
                  have hbc2 := HBC.out.touch HA2.out.old (fun h => h)
                  have c9 := hbc2.cell 9
                  have c10 := hbc2.cell 10
                  have c11 := hbc2.cell 11
                  have cl := hbc2.lt
                  simp [cfgW] at c9 c10 c11
                  have HTI := Lib.hid (HA2.out.tick (by omega) 17)
                  have HRK5 : Hid (∀ j, (B2.tick K 17 j).rank ≤ 2 - (m + 1)) := fun j => by
                    have h1 := rank_tick HA2.out.inv 17 (by decide) (by decide) (by rw [HK.out.2.2.2.1]; decide) (by rw [HK.out.2.2.2.2.1]; decide) (by rw [HK.out.2.2.2.2.2.1]; decide) j
                    have h2 := HRK2.out j
                    omega
                  clear hbc2
                  go_wp2_with fail
                  refine HTI.out.mono ?_
                  rintro e w8 ⟨rfl, hA8⟩
                  have HA8 : Hid (At17 w2 w8 g X K gl gq (40 + 2 * (m + 1)) (B2.tick K 17)) := hA8
                  clear hA8 HA2 HTI c9 c10 c11 cl
                  go_wp2_with fail
                  go_roundw
                  · exact ⟨m + 1, _, by omega, by go_num, HA8.out, HRK5.out⟩
                  · simp [intOf]; omega
            | false =>
              have hov : ov = true := by
                cases ov with
                | true => rfl
                | false =>
                  have hm10 : m = 10 := by
                    by_cases hlt : m < 10
                    · rw [decide_eq_true hlt] at hbb
                      cases hbb
                    · omega
                  rw [HOV.out]
                  have h0 := fun j => rank_zero (Nat.le_zero.1 (Nat.le_trans (HRK.out j) (by omega)))
                  unfold Br.over
                  rw [h0 false, h0 true]
                  rfl
              rw [hov] at HBO
              have HTF := Lib.hid (HT2.out.trans HA.out.old)
              clear hbb
              go_wp2_with fail
              refine HBO.out.mono ?_
              rintro e w6 ⟨rfl, rfl⟩
              go_wp2_with fail
              go_ret
              exact ⟨rfl, HTF.out⟩
end Go.Proofs.YtlnabpoohnphiaaGreat
