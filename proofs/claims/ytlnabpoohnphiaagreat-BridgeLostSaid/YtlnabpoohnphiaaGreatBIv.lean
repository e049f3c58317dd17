/- law17: BridgeLost. -/
import Derived.Test.YtlnabpoohnphiaaGreatB39
namespace Go.Proofs.YtlnabpoohnphiaaGreat
open Go.RowKit
set_option linter.unusedSimpArgs false
set_option linter.unusedVariables false

theorem lose_lost (K : Bk) (B : Br) (i : Bool) : (B.lose K i i).lost = true := by
  show (B.lose1 i i).lost = true
  unfold Br.lose1
  rw [Br.set_at, if_neg (by cases i <;> decide), Br.set_same]
theorem lose_q (K : Bk) (B : Br) (i : Bool) : (B.lose K i (!i)).q = [] := by
  show (settle1 (K.k (!!i)) (B.lose1 i (!!i)).lost (B.lose1 i (!!i)).last (B.lose1 i (!!i)).leg (B.lose1 i (!i)).q).2 = []
  have h : (B.lose1 i (!!i)).lost = true := by rw [Bool.not_not]; exact lose_lost K B i
  unfold settle1
  rw [if_pos (.inl h)]
theorem lost_feed (K : Bk) (B : Br) (i : Bool) (l : List Int) (h : (B i).lost = true) : (B.feed K i l).2 = l.length := by
  have hd : (B i).deaf = true := by unfold Sd.deaf; rw [h]; rfl
  have hn : Br.feedN K i l B = (B, 0) := feedN_no (by rw [hd]; simp)
  unfold Br.feed
  rw [hn]
  exact if_pos hd
set_option maxHeartbeats 12800000 in
set_option maxRecDepth 100000 in
theorem lost17_row (w : World) (xa xb xc xd xe : Int) (gx : bytesIn [xa, xb, xc, xd, xe]) (draw : Int) (gd : (Lit.int .u32 draw).wf = true) (A : Option Addr) (ls : List Act2) (c : Nat) (hr : Rd w A (ls.flatMap Act2.cl)) (hg : ∀ x ∈ ls, x.good) (hlc : ls.length ≤ c) (hcc : c ≤ maxLen) (sd : Bool) :
    Calls Tryz.prog 11 #[.agg #[.int .u8 xa, .int .u8 xb, .int .u8 xc, .int .u8 xd, .int .u8 xe], .int .u32 draw, .slice A ls.length c, .bool sd] w fun e w' => e = .returned (.bool true) ∧ Touch NoS w w' := by
  obtain ⟨ma, rfl, hma⟩ := u8_nn (gx xa (by simp))
  obtain ⟨mb, rfl, hmb⟩ := u8_nn (gx xb (by simp))
  obtain ⟨mc, rfl, hmc⟩ := u8_nn (gx xc (by simp))
  obtain ⟨md, rfl, hmd⟩ := u8_nn (gx xd (by simp))
  obtain ⟨me, rfl, hme⟩ := u8_nn (gx xe (by simp))
  have HR := Lib.hid hr
  have HG := Lib.hid hg
  obtain ⟨n, hn⟩ : ∃ n, n = ls.length := ⟨_, rfl⟩
  rw [← hn] at hlc ⊢
  have HN := Lib.hid hn.symm
  have hnm : n ≤ maxLen := by omega
  unfold maxLen at hnm
  clear hr hg hn hcc gx
  go_enter Tryz.func11, Tryz.ntmps11
  go_wp2_with fail
  refine (l_cfg17 ma mb mc md me hma hmb hmc hmd hme _).mono ?_
  rintro e w1 ⟨b, rfl, hbr, ht⟩
  have HT1 := Lib.hid (((Touch.refl NoS w).alloc (.cells #[.int .u8 ma, .int .u8 mb, .int .u8 mc, .int .u8 md, .int .u8 me] 22)).trans ht)
  have hsz1 := HT1.out.size
  have HBR := Lib.hid hbr
  clear ht hbr
  unfold cfgW
  obtain ⟨Q, hQ⟩ : ∃ Q, Q = 1 + ma + me := ⟨_, rfl⟩
  obtain ⟨M, hM⟩ : ∃ M, M = 1 + ma := ⟨_, rfl⟩
  obtain ⟨F, hF⟩ : ∃ F, F = 1 + mb := ⟨_, rfl⟩
  obtain ⟨O, hO⟩ : ∃ O, O = 1 + mc := ⟨_, rfl⟩
  obtain ⟨C, hC⟩ : ∃ C, C = 1 + md % 8 := ⟨_, rfl⟩
  rw [← hQ, ← hM, ← hF, ← hO, ← hC]
  have hM1 : 1 ≤ M ∧ M ≤ 256 ∧ M ≤ Q ∧ Q ≤ 511 := by omega
  have hF1 : 1 ≤ F ∧ F ≤ 256 := by omega
  have hO1 : 1 ≤ O ∧ O ≤ 256 := by omega
  have hC1 : 1 ≤ C ∧ C ≤ 8 := by omega
  clear hM hF hO hC hQ hma hmb hmc hmd hme
  go_wp2_with fail
  obtain ⟨w2, hw2⟩ : ∃ w2, w2 = w1.alloc (.cells (cfgW b M F C Q O) 29) := ⟨_, rfl⟩
  obtain ⟨gc, hgc⟩ : ∃ g, g = w1.heap.size := ⟨_, rfl⟩
  have hbc : Blk w2 gc 29 (cfgW b M F C Q O) := by rw [hw2, hgc]; exact Blk.new _ _ _
  have HT2 : Hid (Touch NoS w w2) := by rw [hw2]; exact HT1.out.alloc _
  have HBR2 : Hid (Blk w2 b 101 #[.string ⟨#[47]⟩, .string ⟨#[]⟩, .string ⟨#[120]⟩]) := by rw [hw2]; exact HBR.out.alloc _
  have HBC := Lib.hid hbc
  have HNEW := Lib.hid (a_new b M F C Q O hM1.1 hM1.2.2.1 (by omega) hM1.2.1 hC1.1 hC1.2 hF1.1 hF1.2 hO1.1 hO1.2 draw w2 HBR2.out)
  unfold cfgW at hw2 HNEW
  rw [← hw2, ← hgc]
  clear hw2 hgc hbc HBR HBR2 HT1 hsz1
  refine HNEW.out.mono ?_
  rintro e w3 ⟨g, gl, gq, X, K, rfl, k1, k2, k3, k4, k5, k6, k7, hA⟩
  have HK := Lib.hid (And.intro k1 (And.intro k2 (And.intro k3 (And.intro k4 (And.intro k5 (And.intro k6 k7))))))
  have HA3 := Lib.hid hA
  clear hA k1 k2 k3 k4 k5 k6 k7 HNEW
  go_wp2_with fail
  refine (aw17 _).mono ?_
  rintro e w4 ⟨rfl, ht⟩
  have HA4 := Lib.hid (HA3.out.no ht)
  clear ht HA3
  go_wp2_with fail
  go_loopw [12] (fun iv wr => ∃ (i : Nat) (B : Br), i ≤ n ∧ i ≤ 20 ∧ iv = .int .i64 i ∧ At17 w2 wr g X K gl gq (2 * i) B) (fun iv _ => n - (intOf iv).toNat)
  case atStart => exact ⟨0, _, Nat.zero_le _, by omega, rfl, HA4.out⟩
  case round =>
    obtain ⟨i, B, hin, hi20, rfl, hA⟩ := hrel
    have HA := Lib.hid hA
    clear hA HA4
    obtain ⟨we, hwe⟩ : ∃ we : World, we = wr := ⟨_, rfl⟩
    subst hwe
    obtain ⟨bb, hbb⟩ : ∃ b, b = (decide (i < n) && decide (i < 20)) := ⟨_, rfl⟩
    go_upto_region 6 with (fail)
    go_cut [42] (fun v wx => v = .bool bb ∧ wx = we)
    case first =>
      by_cases hlt : i < n
      · rw [decide_eq_true hlt, Bool.true_and] at hbb
        by_cases hlt2 : i < 20
        · rw [decide_eq_true hlt2] at hbb
          have hlt3 : (i : Int) < 20 := by omega
          have hlt4 : decide ((i : Int) < 20) = true := decide_eq_true hlt3
          go_wp2_with fail
          go_meet
          exact ⟨by rw [hbb], rfl⟩
        · rw [decide_eq_false hlt2] at hbb
          have hlt3 : ¬ ((i : Int) < 20) := by omega
          go_wp2_with fail
          go_meet
          exact ⟨by rw [hbb], rfl⟩
      · rw [decide_eq_false hlt, Bool.false_and] at hbb
        have hlt3 : ¬ ((i : Int) < n) := by omega
        go_wp2_with fail
        go_meet
        exact ⟨by rw [hbb], rfl⟩
    case rest =>
      obtain ⟨rfl, hwx⟩ := hcut
      obtain ⟨wd, rfl⟩ : ∃ w : World, w = wc := ⟨_, rfl⟩
      subst hwx
      cases bb with
      | true =>
        have hb2 : i < n ∧ i < 20 := by simpa using hbb.symm
        obtain ⟨hlt, hlt2⟩ := hb2
        have hil : i < ls.length := by rw [HN.out]; exact hlt
        obtain ⟨ga, oa, rfl, hga, a0, a1, a2, a3⟩ := act2_cells (HR.out.touch_no (HT2.out.trans HA.out.old)) i hil
        have hgd := HG.out ls[i] (List.getElem_mem hil)
        obtain ⟨x, hx⟩ : ∃ x, x = ls[i] := ⟨_, rfl⟩
        rw [← hx] at a0 a1 a2 a3 hgd
        have HFEW := Lib.hid (fun W => l_few17 x hgd W)
        have HPL : Hid (∀ W, Touch NoS wd W → x.s.size ≤ 300 → Calls Tryz.prog 29 #[.pointer (some ⟨g, 0, none⟩), .agg #[.int .i64 x.kind, .int .i64 x.side, .int .i64 x.n, .string x.s]] W fun e w' => e = .returned (.tuple #[]) ∧ At17 w2 w' g X K gl gq (2 * i + 2) (B.play K x)) := fun W t h => (HA.out.no t).play (by omega) x h
        obtain ⟨kind, side, na, sa⟩ := x
        simp only at a0 a1 a2 a3 HFEW HPL
        clear hx hgd hil hbb
        go_wp2_with fail
        refine (HFEW.out _).mono ?_
        rintro e w5 ⟨rfl, ht5⟩
        have hb5 := (Blk.new _ 64 #[.int .i64 kind, .int .i64 side, .int .i64 na, .string sa]).touch ht5 (fun h => h)
        have HT5 := Lib.hid (((Touch.refl NoS wd).alloc (.cells #[.int .i64 kind, .int .i64 side, .int .i64 na, .string sa] 64)).trans ht5)
        have b0 := hb5.cell 0
        have b1 := hb5.cell 1
        have b2 := hb5.cell 2
        have b3 := hb5.cell 3
        have bl := hb5.lt
        simp at b0 b1 b2 b3
        obtain ⟨gx, hgx⟩ : ∃ g, g = wd.heap.size := ⟨_, rfl⟩
        rw [← hgx] at b0 b1 b2 b3 bl ⊢
        clear ht5 hb5 HFEW a0 a1 a2 a3 hga hgx
        by_cases hfew : sa.size ≤ 300
        · rw [decide_eq_true hfew]
          have HP5 := Lib.hid (HPL.out _ HT5.out hfew)
          clear HPL
          go_wp2_with fail
          refine HP5.out.mono ?_
          rintro e w6 ⟨rfl, hA6⟩
          have HA6 : Hid (At17 w2 w6 g X K gl gq (2 * (i + 1)) (B.play K ⟨kind, side, na, sa⟩)) := hA6
          clear hA6 b0 b1 b2 b3 bl HP5 HA
          go_wp2_with fail
          go_roundw
          · exact ⟨i + 1, _, by omega, by omega, by go_num, HA6.out⟩
          · simp [intOf]; omega
        · rw [decide_eq_false hfew]
          have HA6 := Lib.hid ((HA.out.no HT5.out).mono (show 2 * i ≤ 2 * (i + 1) by omega))
          clear HPL b0 b1 b2 b3 bl HA
          go_wp2_with fail
          go_roundw
          · exact ⟨i + 1, _, by omega, by omega, by go_num, HA6.out⟩
          · simp [intOf]; omega
      | false =>
        clear hbb hin
        cases sd with
        | false =>
          obtain ⟨B1, hB1⟩ : ∃ x, x = B.lose K false := ⟨_, rfl⟩
          have HLO : Hid (∀ W, Touch NoS wd W → Calls Tryz.prog 26 #[.pointer (some ⟨g, 0, none⟩), .int .i64 0] W fun e w' => e = .returned (.tuple #[]) ∧ At17 w2 w' g X K gl gq (2 * i) B1) := fun W t => by
            rw [hB1]
            exact (HA.out.no t).lose (by omega) false
          have hl1 : (B1 false).lost = true := by rw [hB1]; exact lose_lost K B false
          have hq1 : (B1 true).q = [] := by rw [hB1]; exact lose_q K B false
          have HF1 := Lib.hid (And.intro hl1 hq1)
          clear hB1 hl1 hq1
          go_wp2_with fail
          refine (HLO.out _ (Touch.refl _ _)).mono ?_
          rintro e w6 ⟨rfl, hA6⟩
          have HA6 := Lib.hid hA6
          clear hA6 HA HLO
          go_wp2_with fail
          refine (b_waiting HA6.out.is true).mono ?_
          rintro e w7 ⟨rfl, ht7⟩
          rw [HF1.out.2]
          have HA7 := Lib.hid (HA6.out.no ht7)
          clear ht7 HA6
          go_wp2_with fail
          refine (b_lost HA7.out.is false).mono ?_
          rintro e w8 ⟨rfl, rfl⟩
          rw [HF1.out.1]
          have hob : outB (B1 false) 100 = [] := if_pos HF1.out.1
          have htk : B1.take K false 100 = B1 := if_pos HF1.out.1
          go_wp2_with fail
          refine (HA7.out.take (by omega) false 100).mono ?_
          rintro e w8 ⟨⟨A8, c8, rfl, -⟩, hA8⟩
          rw [htk] at hA8
          rw [hob]
          have HA8 := Lib.hid hA8
          clear hA8 HA7 htk
          go_wp2_with fail
          refine (HA8.out.peek false 100).mono ?_
          rintro e w9 ⟨A9, c9, rfl, -, ht9⟩
          rw [hob]
          have HA9 := Lib.hid (HA8.out.no ht9)
          clear ht9 HA8 hob
          have hfd : (B1.feed K false [97, 98, 99]).2 = 3 := lost_feed K B1 false _ HF1.out.1
          have hcs := conv_const
          go_wp2_with fail
          refine (HA9.out.feed (by omega) false [97, 98, 99] (fun x hx => by simp at hx; omega) (by simp) _ ((Touch.refl _ _).alloc _) w9.heap.size 3 3 (Nat.le_refl _) (by simp) rfl (Nat.le_refl _) (Rd.new w9 (u8s [97, 98, 99]) 5 (3, 4))).mono ?_
          rintro e w10 ⟨rfl, hA10⟩
          rw [hfd]
          have HA10 := Lib.hid hA10
          clear hA10 HA9 hfd
          go_wp2_with fail
          refine (b_feed_no (g := g) (i := 2) (by decide) (by decide) _ _ _ _).mono ?_
          rintro e w11 ⟨rfl, rfl⟩
          go_wp2_with fail
          refine (b_lost_no (g := g) (i := 2) (by decide) (by decide) _).mono ?_
          rintro e w11 ⟨rfl, rfl⟩
          have HTF := Lib.hid (HT2.out.trans (HA10.out.old.alloc (.cells #[.int .u8 97, .int .u8 98, .int .u8 99] 5 (3, 4))))
          go_wp2_with fail
          go_ret
          exact ⟨rfl, HTF.out⟩
        | true =>
          obtain ⟨B1, hB1⟩ : ∃ x, x = B.lose K true := ⟨_, rfl⟩
          have HLO : Hid (∀ W, Touch NoS wd W → Calls Tryz.prog 26 #[.pointer (some ⟨g, 0, none⟩), .int .i64 1] W fun e w' => e = .returned (.tuple #[]) ∧ At17 w2 w' g X K gl gq (2 * i) B1) := fun W t => by
            rw [hB1]
            exact (HA.out.no t).lose (by omega) true
          have hl1 : (B1 true).lost = true := by rw [hB1]; exact lose_lost K B true
          have hq1 : (B1 false).q = [] := by rw [hB1]; exact lose_q K B true
          have HF1 := Lib.hid (And.intro hl1 hq1)
          clear hB1 hl1 hq1
          go_wp2_with fail
          refine (HLO.out _ (Touch.refl _ _)).mono ?_
          rintro e w6 ⟨rfl, hA6⟩
          have HA6 := Lib.hid hA6
          clear hA6 HA HLO
          go_wp2_with fail
          refine (b_waiting HA6.out.is false).mono ?_
          rintro e w7 ⟨rfl, ht7⟩
          rw [HF1.out.2]
          have HA7 := Lib.hid (HA6.out.no ht7)
          clear ht7 HA6
          go_wp2_with fail
          refine (b_lost HA7.out.is true).mono ?_
          rintro e w8 ⟨rfl, rfl⟩
          rw [HF1.out.1]
          have hob : outB (B1 true) 100 = [] := if_pos HF1.out.1
          have htk : B1.take K true 100 = B1 := if_pos HF1.out.1
          go_wp2_with fail
          refine (HA7.out.take (by omega) true 100).mono ?_
          rintro e w8 ⟨⟨A8, c8, rfl, -⟩, hA8⟩
          rw [htk] at hA8
          rw [hob]
          have HA8 := Lib.hid hA8
          clear hA8 HA7 htk
          go_wp2_with fail
          refine (HA8.out.peek true 100).mono ?_
          rintro e w9 ⟨A9, c9, rfl, -, ht9⟩
          rw [hob]
          have HA9 := Lib.hid (HA8.out.no ht9)
          clear ht9 HA8 hob
          have hfd : (B1.feed K true [97, 98, 99]).2 = 3 := lost_feed K B1 true _ HF1.out.1
          have hcs := conv_const
          go_wp2_with fail
          refine (HA9.out.feed (by omega) true [97, 98, 99] (fun x hx => by simp at hx; omega) (by simp) _ ((Touch.refl _ _).alloc _) w9.heap.size 3 3 (Nat.le_refl _) (by simp) rfl (Nat.le_refl _) (Rd.new w9 (u8s [97, 98, 99]) 5 (3, 4))).mono ?_
          rintro e w10 ⟨rfl, hA10⟩
          rw [hfd]
          have HA10 := Lib.hid hA10
          clear hA10 HA9 hfd
          go_wp2_with fail
          refine (b_feed_no (g := g) (i := 2) (by decide) (by decide) _ _ _ _).mono ?_
          rintro e w11 ⟨rfl, rfl⟩
          go_wp2_with fail
          refine (b_lost_no (g := g) (i := 2) (by decide) (by decide) _).mono ?_
          rintro e w11 ⟨rfl, rfl⟩
          have HTF := Lib.hid (HT2.out.trans (HA10.out.old.alloc (.cells #[.int .u8 97, .int .u8 98, .int .u8 99] 5 (3, 4))))
          go_wp2_with fail
          go_ret
          exact ⟨rfl, HTF.out⟩
end Go.Proofs.YtlnabpoohnphiaaGreat
