/- law17: BridgeBound. -/
import Derived.Test.YtlnabpoohnphiaaGreatB39
namespace Go.Proofs.YtlnabpoohnphiaaGreat
open Go.RowKit
set_option linter.unusedSimpArgs false
set_option linter.unusedVariables false

theorem bool_of {j : Nat} (h : j < 2) : ∃ s : Bool, s.toNat = j := by
  rcases j with _ | _ | j
  · exact ⟨false, rfl⟩
  · exact ⟨true, rfl⟩
  · omega
theorem outB_le (s : Sd) (n : Int) : (outB s n).length ≤ s.leg.o.ring.length := by
  unfold outB
  split
  · exact Nat.zero_le _
  · rw [List.length_take]
    omega
set_option maxHeartbeats 12800000 in
set_option maxRecDepth 100000 in
theorem bound17_row (w : World) (xa xb xc xd xe : Int) (gx : bytesIn [xa, xb, xc, xd, xe]) (draw : Int) (gd : (Lit.int .u32 draw).wf = true) (A : Option Addr) (ls : List Act2) (c : Nat) (hr : Rd w A (ls.flatMap Act2.cl)) (hg : ∀ x ∈ ls, x.good) (hlc : ls.length ≤ c) (hcc : c ≤ maxLen) :
    Calls Tryz.prog 9 #[.agg #[.int .u8 xa, .int .u8 xb, .int .u8 xc, .int .u8 xd, .int .u8 xe], .int .u32 draw, .slice A ls.length c] w fun e w' => e = .returned (.bool true) ∧ Touch NoS w w' := by
  obtain ⟨ma, rfl, hma⟩ := u8_nn (gx xa (by simp))
  obtain ⟨mb, rfl, hmb⟩ := u8_nn (gx xb (by simp))
  obtain ⟨mc, rfl, hmc⟩ := u8_nn (gx xc (by simp))
  obtain ⟨md, rfl, hmd⟩ := u8_nn (gx xd (by simp))
  obtain ⟨me, rfl, hme⟩ := u8_nn (gx xe (by simp))
  have HR := Lib.hid hr
  have HG := Lib.hid hg
  obtain ⟨n, hn⟩ : ∃ n, n = ls.length := ⟨_, rfl⟩
  rw [← hn] at hlc ⊢
  have HN := Lib.hid hn.symm
  have hnm : n ≤ maxLen := by omega
  unfold maxLen at hnm
  clear hr hg hn hcc gx
  go_enter Tryz.func9, Tryz.ntmps9
  go_wp2_with fail
  refine (l_cfg17 ma mb mc md me hma hmb hmc hmd hme _).mono ?_
  rintro e w1 ⟨b, rfl, hbr, ht⟩
  have HT1 := Lib.hid (((Touch.refl NoS w).alloc (.cells #[.int .u8 ma, .int .u8 mb, .int .u8 mc, .int .u8 md, .int .u8 me] 22)).trans ht)
  have hsz1 := HT1.out.size
  have HBR := Lib.hid hbr
  clear ht hbr
  unfold cfgW
  obtain ⟨Q, hQ⟩ : ∃ Q, Q = 1 + ma + me := ⟨_, rfl⟩
  obtain ⟨M, hM⟩ : ∃ M, M = 1 + ma := ⟨_, rfl⟩
  obtain ⟨F, hF⟩ : ∃ F, F = 1 + mb := ⟨_, rfl⟩
  obtain ⟨O, hO⟩ : ∃ O, O = 1 + mc := ⟨_, rfl⟩
  obtain ⟨C, hC⟩ : ∃ C, C = 1 + md % 8 := ⟨_, rfl⟩
  rw [← hQ, ← hM, ← hF, ← hO, ← hC]
  have hM1 : 1 ≤ M ∧ M ≤ 256 ∧ M ≤ Q ∧ Q ≤ 511 := by omega
  have hF1 : 1 ≤ F ∧ F ≤ 256 := by omega
  have hO1 : 1 ≤ O ∧ O ≤ 256 := by omega
  have hC1 : 1 ≤ C ∧ C ≤ 8 := by omega
  clear hM hF hO hC hQ hma hmb hmc hmd hme
  go_wp2_with fail
  obtain ⟨w2, hw2⟩ : ∃ w2, w2 = w1.alloc (.cells (cfgW b M F C Q O) 29) := ⟨_, rfl⟩
  obtain ⟨gc, hgc⟩ : ∃ g, g = w1.heap.size := ⟨_, rfl⟩
  have hbc : Blk w2 gc 29 (cfgW b M F C Q O) := by rw [hw2, hgc]; exact Blk.new _ _ _
  have HT2 : Hid (Touch NoS w w2) := by rw [hw2]; exact HT1.out.alloc _
  have HBR2 : Hid (Blk w2 b 101 #[.string ⟨#[47]⟩, .string ⟨#[]⟩, .string ⟨#[120]⟩]) := by rw [hw2]; exact HBR.out.alloc _
  have HBC := Lib.hid hbc
  have HNEW := Lib.hid (a_new b M F C Q O hM1.1 hM1.2.2.1 (by omega) hM1.2.1 hC1.1 hC1.2 hF1.1 hF1.2 hO1.1 hO1.2 draw w2 HBR2.out)
  unfold cfgW at hw2 HNEW
  rw [← hw2, ← hgc]
  clear hw2 hgc hbc HBR HBR2 HT1 hsz1
  refine HNEW.out.mono ?_
  rintro e w3 ⟨g, gl, gq, X, K, rfl, k1, k2, k3, k4, k5, k6, k7, hA⟩
  have HK := Lib.hid (And.intro k1 (And.intro k2 (And.intro k3 (And.intro k4 (And.intro k5 (And.intro k6 k7))))))
  have HA3 := Lib.hid hA
  clear hA k1 k2 k3 k4 k5 k6 k7 HNEW
  go_wp2_with fail
  refine (aw17 _).mono ?_
  rintro e w4 ⟨rfl, ht⟩
  have HA4 := Lib.hid (HA3.out.no ht)
  clear ht HA3
  go_wp2_with fail
  go_loopw [10] (fun iv wr => ∃ (i : Nat) (B : Br), i ≤ n ∧ i ≤ 40 ∧ iv = .int .i64 i ∧ At17 w2 wr g X K gl gq (2 * i) B) (fun iv _ => n - (intOf iv).toNat)
  case atStart => exact ⟨0, _, Nat.zero_le _, by omega, rfl, HA4.out⟩
  case round =>
    obtain ⟨i, B, hin, hi20, rfl, hA⟩ := hrel
    have HA := Lib.hid hA
    clear hA HA4
    obtain ⟨we, hwe⟩ : ∃ we : World, we = wr := ⟨_, rfl⟩
    subst hwe
    obtain ⟨bb, hbb⟩ : ∃ b, b = (decide (i < n) && decide (i < 40)) := ⟨_, rfl⟩
    go_upto_region 6 with (fail)
    go_cut [40] (fun v wx => v = .bool bb ∧ wx = we)
    case first =>
      by_cases hlt : i < n
      · rw [decide_eq_true hlt, Bool.true_and] at hbb
        by_cases hlt2 : i < 40
        · rw [decide_eq_true hlt2] at hbb
          have hlt3 : (i : Int) < 40 := by omega
          have hlt4 : decide ((i : Int) < 40) = true := decide_eq_true hlt3
          go_wp2_with fail
          go_meet
          exact ⟨by rw [hbb], rfl⟩
        · rw [decide_eq_false hlt2] at hbb
          have hlt3 : ¬ ((i : Int) < 40) := by omega
          go_wp2_with fail
          go_meet
          exact ⟨by rw [hbb], rfl⟩
      · rw [decide_eq_false hlt, Bool.false_and] at hbb
        have hlt3 : ¬ ((i : Int) < n) := by omega
        go_wp2_with fail
        go_meet
        exact ⟨by rw [hbb], rfl⟩
    case rest =>
      obtain ⟨rfl, hwx⟩ := hcut
      obtain ⟨wd, rfl⟩ : ∃ w : World, w = wc := ⟨_, rfl⟩
      subst hwx
      cases bb with
      | true =>
        have hb2 : i < n ∧ i < 40 := by simpa using hbb.symm
        obtain ⟨hlt, hlt2⟩ := hb2
        have hil : i < ls.length := by rw [HN.out]; exact hlt
        obtain ⟨ga, oa, rfl, hga, a0, a1, a2, a3⟩ := act2_cells (HR.out.touch_no (HT2.out.trans HA.out.old)) i hil
        have hgd := HG.out ls[i] (List.getElem_mem hil)
        obtain ⟨x, hx⟩ : ∃ x, x = ls[i] := ⟨_, rfl⟩
        rw [← hx] at a0 a1 a2 a3 hgd
        have HFEW := Lib.hid (fun W => l_few17 x hgd W)
        have HPL : Hid (∀ W, Touch NoS wd W → x.s.size ≤ 300 → Calls Tryz.prog 29 #[.pointer (some ⟨g, 0, none⟩), .agg #[.int .i64 x.kind, .int .i64 x.side, .int .i64 x.n, .string x.s]] W fun e w' => e = .returned (.tuple #[]) ∧ At17 w2 w' g X K gl gq (2 * i + 2) (B.play K x)) := fun W t h => (HA.out.no t).play (by omega) x h
        obtain ⟨kind, side, na, sa⟩ := x
        simp only at a0 a1 a2 a3 HFEW HPL
        clear hx hgd hil hbb
        go_wp2_with fail
        refine (HFEW.out _).mono ?_
        rintro e w5 ⟨rfl, ht5⟩
        have hb5 := (Blk.new _ 64 #[.int .i64 kind, .int .i64 side, .int .i64 na, .string sa]).touch ht5 (fun h => h)
        have HT5 := Lib.hid (((Touch.refl NoS wd).alloc (.cells #[.int .i64 kind, .int .i64 side, .int .i64 na, .string sa] 64)).trans ht5)
        have b0 := hb5.cell 0
        have b1 := hb5.cell 1
        have b2 := hb5.cell 2
        have b3 := hb5.cell 3
        have bl := hb5.lt
        simp at b0 b1 b2 b3
        obtain ⟨gx, hgx⟩ : ∃ g, g = wd.heap.size := ⟨_, rfl⟩
        rw [← hgx] at b0 b1 b2 b3 bl ⊢
        clear ht5 hb5 HFEW a0 a1 a2 a3 hga hgx
        by_cases hfew : sa.size ≤ 300
        · rw [decide_eq_true hfew]
          have HP5 := Lib.hid (HPL.out _ HT5.out hfew)
          clear HPL
          go_wp2_with fail
          refine HP5.out.mono ?_
          rintro e w6 ⟨rfl, hA6⟩
          have HA6 : Hid (At17 w2 w6 g X K gl gq (2 * (i + 1)) (B.play K ⟨kind, side, na, sa⟩)) := hA6
          clear hA6 b0 b1 b2 b3 bl HP5 HA
          obtain ⟨B6, hB6⟩ : ∃ x, x = B.play K ⟨kind, side, na, sa⟩ := ⟨_, rfl⟩
          rw [← hB6] at HA6
          clear hB6
          go_wp2_with fail
          go_loopw [12] (fun iv wr => ∃ j : Nat, j ≤ 2 ∧ iv = .int .i64 j ∧ At17 w2 wr g X K gl gq (2 * (i + 1)) B6) (fun iv _ => 2 - (intOf iv).toNat)
          case atStart => exact ⟨0, by omega, rfl, HA6.out⟩
          case round =>
            obtain ⟨j, hj, rfl, hA7⟩ := hrel
            have HA7 := Lib.hid hA7
            clear hA7
            by_cases hj2 : j < 2
            · obtain ⟨s, hs⟩ := bool_of hj2
              have HW := Lib.hid (b_waiting HA7.out.is s)
              have hcb : ((B6 s).q.length : Int) ≤ C := by rw [← HK.out.2.1]; exact (HA7.out.inv.q s).count
              have hsb : (evSize (B6 s).q : Int) ≤ Q := by rw [← HK.out.2.2.1]; exact (HA7.out.inv.q s).bytes
              have hrb : (outB (B6 s) 70000).length ≤ O := Nat.le_trans (outB_le _ _) (by rw [← (HK.out.2.2.2.2.2.2 s).2.2.1]; exact (HA7.out.ring s).1)
              have HPK0 := Lib.hid (fun W (t : Touch NoS wr W) => (HA7.out.no t).peek s 70000)
              rw [hs] at HW HPK0
              obtain ⟨ln, hln⟩ : ∃ x, x = (B6 s).q.length := ⟨_, rfl⟩
              obtain ⟨sz, hsz⟩ : ∃ x, x = evSize (B6 s).q := ⟨_, rfl⟩
              obtain ⟨R, hR⟩ : ∃ x, x = (outB (B6 s) 70000).length := ⟨_, rfl⟩
              rw [← hln] at HW hcb
              rw [← hsz] at HW hsb
              rw [← hR] at hrb
              have HPK : Hid (∀ W, Touch NoS wr W → Calls Tryz.prog 16 #[.pointer (some ⟨g, 0, none⟩), .int .i64 j, .int .i64 70000] W fun e w' => ∃ A c, e = .returned (.slice A R c) ∧ Touch NoS W w') := fun W t => by
                refine (HPK0.out W t).mono ?_
                rintro e w' ⟨A, c, rfl, -, h⟩
                rw [hR]
                exact ⟨A, c, rfl, h⟩
              have HBC7 := Lib.hid (fun W (t : Touch NoS wr W) => HBC.out.touch (HA7.out.old.trans t) (fun h => h))
              clear hln hsz hR HPK0
              go_wp2_with fail
              refine HW.out.mono ?_
              rintro e w8 ⟨rfl, ht8⟩
              have HT8 := Lib.hid ht8
              have hbc8 := HBC7.out _ ht8
              have c5 := hbc8.cell 5
              have c6 := hbc8.cell 6
              have c7 := hbc8.cell 7
              have cl := hbc8.lt
              simp [cfgW] at c5 c6 c7
              have g1 : decide ((ln : Int) < 0) = false := decide_eq_false (by omega)
              have g2 : decide ((C : Int) < (ln : Int)) = false := decide_eq_false (by omega)
              have g3 : decide (C < ln) = false := decide_eq_false (by omega)
              have g4 : decide ((sz : Int) < 0) = false := decide_eq_false (by omega)
              have g5 : decide ((Q : Int) < (sz : Int)) = false := decide_eq_false (by omega)
              have g6 : decide (Q < sz) = false := decide_eq_false (by omega)
              have g7 : decide ((O : Int) < (R : Int)) = false := decide_eq_false (by omega)
              have g8 : decide (O < R) = false := decide_eq_false (by omega)
              clear ht8 hbc8 HW
              go_wp2_with fail
              have k5 : w8.drew.cell? ⟨gc, 5, none⟩ = some (.int .i64 C) := c5
              have k6 : w8.drew.cell? ⟨gc, 6, none⟩ = some (.int .i64 Q) := c6
              have k7 : w8.drew.cell? ⟨gc, 7, none⟩ = some (.int .i64 O) := c7
              have kt : Touch NoS w8 w8.drew := (Touch.refl NoS w8).drew
              go_region_held3 (fun w' => w'.cell? ⟨gc, 5, none⟩ = some (.int .i64 C) ∧ w'.cell? ⟨gc, 6, none⟩ = some (.int .i64 Q) ∧ w'.cell? ⟨gc, 7, none⟩ = some (.int .i64 O) ∧ Touch NoS w8 w')
                (first | exact ⟨z5, z6, z7, HT9.out⟩ | exact ⟨k5, k6, k7, kt⟩)
                (first
                  | (go_at_call 16; refine (HPK.out _ (HT8.out.trans kt)).mono ?_; rintro e w9 ⟨A9, c9, rfl, ht9⟩; have hbc9 := HBC7.out _ ((HT8.out.trans kt).trans ht9); have z5 := hbc9.cell 5; have z6 := hbc9.cell 6; have z7 := hbc9.cell 7; have zl := hbc9.lt; simp [cfgW] at z5 z6 z7; have HT9 : Hid (Touch NoS w8 w9) := kt.trans ht9; clear ht9 hbc9))
              all_goals
                have HA9 := Lib.hid (HA7.out.no (HT8.out.trans HT9.out))
                go_wp2_with fail
                go_roundw
                · exact ⟨j + 1, by omega, by go_num, HA9.out⟩
                · simp [intOf]; omega
            · have hj3 : j = 2 := by omega
              subst hj3
              go_wp2_with fail
              go_roundw
              · exact ⟨i + 1, B6, by omega, by omega, by go_num, HA7.out⟩
              · simp [intOf]; omega
        · rw [decide_eq_false hfew]
          have HA6 := Lib.hid ((HA.out.no HT5.out).mono (show 2 * i ≤ 2 * (i + 1) by omega))
          clear HPL b0 b1 b2 b3 bl HA
          obtain ⟨B6, hB6⟩ : ∃ x, x = B := ⟨_, rfl⟩
          rw [← hB6] at HA6
          clear hB6
          go_wp2_with fail
          go_loopw [12] (fun iv wr => ∃ j : Nat, j ≤ 2 ∧ iv = .int .i64 j ∧ At17 w2 wr g X K gl gq (2 * (i + 1)) B6) (fun iv _ => 2 - (intOf iv).toNat)
          case atStart => exact ⟨0, by omega, rfl, HA6.out⟩
          case round =>
            obtain ⟨j, hj, rfl, hA7⟩ := hrel
            have HA7 := Lib.hid hA7
            clear hA7
            by_cases hj2 : j < 2
            · obtain ⟨s, hs⟩ := bool_of hj2
              have HW := Lib.hid (b_waiting HA7.out.is s)
              have hcb : ((B6 s).q.length : Int) ≤ C := by rw [← HK.out.2.1]; exact (HA7.out.inv.q s).count
              have hsb : (evSize (B6 s).q : Int) ≤ Q := by rw [← HK.out.2.2.1]; exact (HA7.out.inv.q s).bytes
              have hrb : (outB (B6 s) 70000).length ≤ O := Nat.le_trans (outB_le _ _) (by rw [← (HK.out.2.2.2.2.2.2 s).2.2.1]; exact (HA7.out.ring s).1)
              have HPK0 := Lib.hid (fun W (t : Touch NoS wr W) => (HA7.out.no t).peek s 70000)
              rw [hs] at HW HPK0
              obtain ⟨ln, hln⟩ : ∃ x, x = (B6 s).q.length := ⟨_, rfl⟩
              obtain ⟨sz, hsz⟩ : ∃ x, x = evSize (B6 s).q := ⟨_, rfl⟩
              obtain ⟨R, hR⟩ : ∃ x, x = (outB (B6 s) 70000).length := ⟨_, rfl⟩
              rw [← hln] at HW hcb
              rw [← hsz] at HW hsb
              rw [← hR] at hrb
              have HPK : Hid (∀ W, Touch NoS wr W → Calls Tryz.prog 16 #[.pointer (some ⟨g, 0, none⟩), .int .i64 j, .int .i64 70000] W fun e w' => ∃ A c, e = .returned (.slice A R c) ∧ Touch NoS W w') := fun W t => by
                refine (HPK0.out W t).mono ?_
                rintro e w' ⟨A, c, rfl, -, h⟩
                rw [hR]
                exact ⟨A, c, rfl, h⟩
              have HBC7 := Lib.hid (fun W (t : Touch NoS wr W) => HBC.out.touch (HA7.out.old.trans t) (fun h => h))
              clear hln hsz hR HPK0
              go_wp2_with fail
              refine HW.out.mono ?_
              rintro e w8 ⟨rfl, ht8⟩
              have HT8 := Lib.hid ht8
              have hbc8 := HBC7.out _ ht8
              have c5 := hbc8.cell 5
              have c6 := hbc8.cell 6
              have c7 := hbc8.cell 7
              have cl := hbc8.lt
              simp [cfgW] at c5 c6 c7
              have g1 : decide ((ln : Int) < 0) = false := decide_eq_false (by omega)
              have g2 : decide ((C : Int) < (ln : Int)) = false := decide_eq_false (by omega)
              have g3 : decide (C < ln) = false := decide_eq_false (by omega)
              have g4 : decide ((sz : Int) < 0) = false := decide_eq_false (by omega)
              have g5 : decide ((Q : Int) < (sz : Int)) = false := decide_eq_false (by omega)
              have g6 : decide (Q < sz) = false := decide_eq_false (by omega)
              have g7 : decide ((O : Int) < (R : Int)) = false := decide_eq_false (by omega)
              have g8 : decide (O < R) = false := decide_eq_false (by omega)
              clear ht8 hbc8 HW
              go_wp2_with fail
              have k5 : w8.drew.cell? ⟨gc, 5, none⟩ = some (.int .i64 C) := c5
              have k6 : w8.drew.cell? ⟨gc, 6, none⟩ = some (.int .i64 Q) := c6
              have k7 : w8.drew.cell? ⟨gc, 7, none⟩ = some (.int .i64 O) := c7
              have kt : Touch NoS w8 w8.drew := (Touch.refl NoS w8).drew
              go_region_held3 (fun w' => w'.cell? ⟨gc, 5, none⟩ = some (.int .i64 C) ∧ w'.cell? ⟨gc, 6, none⟩ = some (.int .i64 Q) ∧ w'.cell? ⟨gc, 7, none⟩ = some (.int .i64 O) ∧ Touch NoS w8 w')
                (first | exact ⟨z5, z6, z7, HT9.out⟩ | exact ⟨k5, k6, k7, kt⟩)
                (first
                  | (go_at_call 16; refine (HPK.out _ (HT8.out.trans kt)).mono ?_; rintro e w9 ⟨A9, c9, rfl, ht9⟩; have hbc9 := HBC7.out _ ((HT8.out.trans kt).trans ht9); have z5 := hbc9.cell 5; have z6 := hbc9.cell 6; have z7 := hbc9.cell 7; have zl := hbc9.lt; simp [cfgW] at z5 z6 z7; have HT9 : Hid (Touch NoS w8 w9) := kt.trans ht9; clear ht9 hbc9))
              all_goals
                have HA9 := Lib.hid (HA7.out.no (HT8.out.trans HT9.out))
                go_wp2_with fail
                go_roundw
                · exact ⟨j + 1, by omega, by go_num, HA9.out⟩
                · simp [intOf]; omega
            · have hj3 : j = 2 := by omega
              subst hj3
              go_wp2_with fail
              go_roundw
              · exact ⟨i + 1, B6, by omega, by omega, by go_num, HA7.out⟩
              · simp [intOf]; omega
      | false =>
        clear hbb hin
        have HTF := Lib.hid (HT2.out.trans HA.out.old)
        go_wp2_with fail
        go_ret
        exact ⟨rfl, HTF.out⟩
end Go.Proofs.YtlnabpoohnphiaaGreat
