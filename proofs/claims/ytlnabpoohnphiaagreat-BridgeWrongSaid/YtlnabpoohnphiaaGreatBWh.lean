/- law17: BridgeWrong. -/
import Derived.Test.YtlnabpoohnphiaaGreatB44
import Derived.Test.YtlnabpoohnphiaaGreatB45
namespace Go.Proofs.YtlnabpoohnphiaaGreat
open Go.RowKit
set_option linter.unusedSimpArgs false
set_option linter.unusedVariables false

theorem conv_one17 (W : World) (g : Nat) (a : Int) (c0 : W.cell? ⟨g, 0, none⟩ = some (.int .u8 a)) :
    (convert 43 9 (.slice (some ⟨g, 0, none⟩) 1 1)).run Tryz.prog W = .ok (.string (Go.strOfNums [a])) W :=
  Go.run_convert_bytes_arg (P := Tryz.prog) _ 43 5 Tryz.underlying43 Tryz.underlying5 g 0 1 1 [a] rfl (fun i hi => by
    rcases i with _ | i
    · exact c0
    · omega) 9 Tryz.underlying9
set_option maxHeartbeats 12800000 in
set_option maxRecDepth 100000 in
theorem wrong17_row (w : World) (draw : Int) (gd : (Lit.int .u32 draw).wf = true) (bad : Int) (gb : (Lit.int .u8 bad).wf = true) (more : ByteArray) (gm : more.size ≤ maxLen) (sd : Bool) :
    Calls Tryz.prog 4 #[.int .u32 draw, .int .u8 bad, .string more, .bool sd] w fun e w' => e = .returned (.bool true) ∧ Touch NoS w w' := by
  have hbb := u8_bounds gb
  unfold maxLen at gm
  go_enter Tryz.func4, Tryz.ntmps4
  go_wp2_with fail
  refine (l_cfg17 99 99 250 3 99 (by omega) (by omega) (by omega) (by omega) (by omega) _).mono ?_
  rintro e w2 ⟨b, rfl, hbr, ht⟩
  have HT2 := Lib.hid ht
  have HNEW := Lib.hid (a_new b (1 + 99) (1 + 99) (1 + 3 % 8) (1 + 99 + 99) (1 + 250) (by omega) (by omega) (by omega) (by omega) (by omega) (by omega) (by omega) (by omega) (by omega) (by omega) draw w2 hbr)
  clear ht hbr
  unfold cfgW
  unfold cfgW at HNEW
  go_wp2_with fail
  refine HNEW.out.mono ?_
  rintro e w3 ⟨g, gl, gq, X, K, rfl, k1, k2, k3, k4, k5, k6, k7, hA⟩
  have HK := Lib.hid (And.intro k1 (And.intro k2 (And.intro k3 (And.intro k4 (And.intro k5 (And.intro k6 k7))))))
  have HA3 := Lib.hid hA
  clear hA k1 k2 k3 k4 k5 k6 k7 HNEW
  go_wp2_with fail
  refine (aw17 _).mono ?_
  rintro e w4 ⟨rfl, ht⟩
  have HA4 := Lib.hid (HA3.out.no ht)
  clear ht HA3
  have HRM : Hid (roomL K [] K.message = true) := room_idle HK.out.1 HK.out.2.1 HK.out.2.2.1
  have hz := and112 bad hbb.1 hbb.2
  obtain ⟨z, hzz⟩ : ∃ z, z = bad / 16 % 8 * 16 := ⟨_, rfl⟩
  rw [← hzz] at hz
  by_cases hz0 : z = 0
  · subst hz0
    clear hzz
    go_wp2_with fail
    refine (aw17 _).mono ?_
    rintro e w5 ⟨rfl, ht⟩
    have HTF := Lib.hid ((HT2.out.trans HA4.out.old).trans ht)
    clear ht
    go_wp2_with fail
    go_ret
    exact ⟨rfl, HTF.out⟩
  · have hbad : bad / 16 % 8 ≠ 0 := by omega
    have hzb : (z == 0) = false := by rw [beq_eq_false_iff_ne]; exact hz0
    have HBAD := Lib.hid hbad
    clear hzz hbad
    by_cases h300 : more.size ≤ 300
    · have h300i : (more.size : Int) ≤ 300 := by omega
      have hbad := HBAD.out
      have HBB := Lib.hid hbb
      obtain ⟨P, hP⟩ : ∃ P, P = Go.strOfNums [bad] := ⟨_, rfl⟩
      have hPz : P.size = 1 := by rw [hP, numsB_size]; rfl
      have hPs : sb P = [bad] := by rw [hP]; exact sb_nums _ (fun x hx => by simp at hx; rw [hx]; exact hbb)
      have HCC := Lib.hid (fun W q c0 => conv_one17 W q bad c0)
      rw [← hP] at HCC
      clear hP
      obtain ⟨S, hS⟩ : ∃ S, S = P ++ more := ⟨_, rfl⟩
      obtain ⟨nn, hnn⟩ : ∃ n, n = 1 + more.size := ⟨_, rfl⟩
      have hnn2 : ((more.size + 1 : Nat) : Int) = nn := by omega
      have hSz : S.size = nn := by rw [hS, ByteArray.size_append, hPz, hnn]
      have HSB : Hid (sb S = bad :: sb more) := by
        show sb S = bad :: sb more
        rw [hS, sb_append, hPs]
        rfl
      obtain ⟨W2, cp, hW2⟩ := conv_of2 S nn hSz
      have hc2 := fun W => (hW2 W).1
      have HC3 := Lib.hid (fun W => (hW2 W).2)
      rw [hS] at hc2
      have hnnb : nn ≤ 301 := by omega
      have HNN := Lib.hid (And.intro hSz hnn2)
      clear hW2 hS hPs hSz hnn2 hnn
      obtain ⟨wd, hwd⟩ : ∃ x : World, x = w4 := ⟨_, rfl⟩
      subst hwd
      cases sd with
      | false =>
        obtain ⟨B1, hfd, hB⟩ := wrong_feed (K := K) (i := false) (M := 1 + 99) (di := draw) (fun j => by rw [(HK.out.2.2.2.2.2.2 j).2.2.1]; omega) HRM.out hbad (sb more)
        have hmki : (K.k false).masks = false := (HK.out.2.2.2.2.2.2 false).2.2.2
        have hmko : (K.k true).masks = true := (HK.out.2.2.2.2.2.2 true).2.2.2
        obtain ⟨hs1, hl1⟩ := hB.scan1 hmki (by decide)
        obtain ⟨hs2, hl2⟩ := hB.scan2 hmko (by decide) (by decide)
        have hlg := hB.sent
        have hlg2 := hB.got
        have hlg3 := hB.wrong
        have hlg4 := hB.got2
        have hlg5 := hB.wrong2
        obtain ⟨haf, hov⟩ := hB.after 300 300 (.inr (by decide))
        simp only [Bool.not_true, Bool.not_false] at hs2 hl2 hlg4 hlg5 haf hov
        have HF := Lib.hid (And.intro (hlg false) (And.intro hlg2 (And.intro hlg3 (And.intro (hlg true) (And.intro hlg4 hlg5)))))
        have HS := Lib.hid (And.intro hs1 (And.intro hl1 (And.intro hs2 hl2)))
        have HAF := Lib.hid (And.intro haf hov)
        have HFD : Hid (∀ W b q, Touch NoS wd W → wd.heap.size ≤ b → b < W.heap.size → nn ≤ q → Rd W (some ⟨b, 0, none⟩) (u8s (sb S)) → Calls Tryz.prog 17 #[.pointer (some ⟨g, 0, none⟩), .int .i64 0, .slice (some ⟨b, 0, none⟩) nn q] W fun e w' => e = .returned (.int .i64 nn) ∧ At17 w2 w' g X K gl gq 0 B1) := fun W b q t h1 h2 h3 h4 => by
          refine (HA4.out.feed (by omega) false (sb S) (sb_in S) (by rw [sb_length, HNN.out.1]; omega) W t b nn q h1 h2 (by rw [sb_length]; exact HNN.out.1) h3 h4).mono ?_
          rintro e w' ⟨rfl, h⟩
          rw [HSB.out, hfd] at h ⊢
          exact ⟨by rw [sb_length, HNN.out.2], h⟩
        clear hs1 hl1 hs2 hl2 hlg hlg2 hlg3 hlg4 hlg5 haf hov hB hmki hmko
        go_upto_region 7 with (fail)
        go_cut [12] (fun v wx => v = .int .i64 (1 + (more.size : Int)) ∧ At17 w2 wx g X K gl gq 0 B1)
        case first =>
          have h3c := HC3.out (wd.alloc (.cells #[.int .u8 bad] 5))
          have hcc := HCC.out
          go_wp2_with fail
          refine (HFD.out _ (wd.heap.size + 1) _ (((Touch.refl _ _).alloc _).trans h3c.1) (by omega) (by first | exact h3c.2.2.1 | simpa using h3c.2.2.1) (by first | exact h3c.2.2.2 | simpa using h3c.2.2.2) (by first | exact h3c.2.1 | simpa using h3c.2.1)).mono ?_
          rintro e w7 ⟨rfl, hA7⟩
          have HA7 := Lib.hid hA7
          clear hA7 h3c
          go_wp2_with fail
          go_meet
          exact ⟨by rw [HNN.out.2.symm]; simp [Int.add_comm], HA7.out⟩
        case rest =>
          obtain ⟨rfl, hA8⟩ := hcut
          obtain ⟨w8, rfl⟩ : ∃ we : World, we = wc := ⟨_, rfl⟩
          have HA8 := Lib.hid hA8
          clear hA8 hc2 HC3 HFD HA4 hfd
          go_wp2_with fail
          refine (b_leg HA8.out.is false).mono ?_
          rintro e w9 ⟨rfl, rfl⟩
          rw [HF.out.1, HF.out.2.1, HF.out.2.2.1]
          go_wp2_with fail
          refine (b_leg HA8.out.is true).mono ?_
          rintro e w9 ⟨rfl, rfl⟩
          rw [HF.out.2.2.2.1, HF.out.2.2.2.2.1, HF.out.2.2.2.2.2]
          go_wp2_with fail
          refine (HA8.out.take (by omega) false 300).mono ?_
          rintro e w9 ⟨⟨A9, c9, rfl, hr9⟩, hA9⟩
          have HA9 := Lib.hid hA9
          obtain ⟨nl, hnl⟩ : ∃ nl, (outB (B1 false) 300).length = nl := ⟨_, rfl⟩
          obtain ⟨P9, hP9, hS9, hcv9⟩ := str17 _ (outB_in HA8.out false 300) nl hnl
          have hcv := hcv9 w9 A9 c9 hr9
          have hsc9 : scan false 200 (sb P9) = ([outF false draw (ctlF 8 ⟨#[3, 234]⟩)], [], 0) := by rw [hS9]; exact HS.out.1
          have hnl2 : nl ≤ 200 := by rw [← hnl]; exact HS.out.2.1
          rw [hnl]
          clear hA9 hr9 hcv9 hS9 hnl HA8
          go_wp2_with fail
          refine (all17_one (s := P9) (mk := false) (by omega) hsc9 _).mono ?_
          rintro e w10 ⟨g10, c10, rfl, hg10a, hg10, a1, a7, ht10⟩
          rw [(outF_data _ _ _).1] at a1
          rw [(outF_data _ _ _).2] at a7
          have HE10 := Lib.hid (HA9.out.e.grow ht10)
          have hE10 : Hid ((g10 < w2.heap.size ∨ (w9.heap.size ≤ g10 ∧ g10 < w10.heap.size))) := .inr ⟨hg10a, hg10⟩
          clear ht10 HA9 hsc9 hcv hP9
          go_wp2_with fail
          refine (HE10.out.take (by omega) true 300).mono ?_
          rintro e w11 ⟨⟨A11, c11, rfl, hr11⟩, hA11, ht11⟩
          have hk1 := HE10.out.cell ht11 hE10.out a1
          have hk7 := HE10.out.cell ht11 hE10.out a7
          have HA11 := Lib.hid hA11.at
          obtain ⟨nm, hnm⟩ : ∃ nm, (outB (B1.take K false 300 true) 300).length = nm := ⟨_, rfl⟩
          obtain ⟨P11, hP11, hS11, hcv11⟩ := str17 _ (outB_in HE10.out.at true 300) nm hnm
          have hcv := hcv11 w11 A11 c11 hr11
          have hsc11 : scan true 200 (sb P11) = ([outF true draw (ctlF 8 ⟨#[3, 233]⟩)], [], 0) := by rw [hS11]; exact HS.out.2.2.1
          have hnm2 : nm ≤ 200 := by rw [← hnm]; exact HS.out.2.2.2
          have hg11 : g10 < w11.heap.size := Nat.lt_of_lt_of_le hg10 ht11.size
          rw [hnm]
          clear hA11 hr11 hcv11 hS11 hnm HE10 hE10 a1 a7 ht11 hg10 hg10a
          go_wp2_with fail
          refine (all17_one (s := P11) (mk := true) (by omega) hsc11 _).mono ?_
          rintro e w12 ⟨g12, c12, rfl, hg12a, hg12, y1, y7, ht12⟩
          rw [(outF_data _ _ _).1] at y1
          rw [(outF_data _ _ _).2] at y7
          have a1 : w12.cell? ⟨g10, 1, none⟩ = some (.int .i64 8) := ht12.cell hk1
          have a7 : w12.cell? ⟨g10, 7, none⟩ = some (.string ⟨#[3, 234]⟩) := ht12.cell hk7
          have b1 : w12.cell? ⟨g12, 1, none⟩ = some (.int .i64 8) := y1
          have b7 : w12.cell? ⟨g12, 7, none⟩ = some (.string ⟨#[3, 233]⟩) := y7
          have hg10 : g10 < w12.heap.size := Nat.lt_of_lt_of_le hg11 ht12.size
          have HA12 := Lib.hid (HA11.out.no ht12)
          have hcs := conv_const
          clear ht12 HA11 hsc11 hcv hP11 hk1 hk7 hg11 y1 y7
          go_wp2_with fail
          refine (HA12.out.feed (by omega) false [97, 98, 99] (fun x hx => by simp at hx; omega) (by simp) _ ((Touch.refl _ _).alloc _) w12.heap.size 3 3 (Nat.le_refl _) (by simp) rfl (Nat.le_refl _) (Rd.new w12 (u8s [97, 98, 99]) 5 (3, 4))).mono ?_
          rintro e w13 ⟨rfl, hA13⟩
          rw [deaf_feed _ HAF.out.1] at hA13 ⊢
          have HBO := Lib.hid (b_over hA13.is)
          rw [HAF.out.2] at HBO
          have HTF := Lib.hid (HT2.out.trans hA13.old)
          clear hA13 HA12
          go_wp2_with fail
          refine HBO.out.mono ?_
          rintro e w14 ⟨rfl, rfl⟩
          go_wp2_with fail
          go_ret
          exact ⟨rfl, HTF.out⟩
      | true =>
        obtain ⟨B1, hfd, hB⟩ := wrong_feed (K := K) (i := true) (M := 1 + 99) (di := draw) (fun j => by rw [(HK.out.2.2.2.2.2.2 j).2.2.1]; omega) HRM.out hbad (sb more)
        have hmki : (K.k true).masks = true := (HK.out.2.2.2.2.2.2 true).2.2.2
        have hmko : (K.k false).masks = false := (HK.out.2.2.2.2.2.2 false).2.2.2
        obtain ⟨hs1, hl1⟩ := hB.scan1 hmki (by decide)
        obtain ⟨hs2, hl2⟩ := hB.scan2 hmko (by decide) (by decide)
        have hlg := hB.sent
        have hlg2 := hB.got
        have hlg3 := hB.wrong
        have hlg4 := hB.got2
        have hlg5 := hB.wrong2
        obtain ⟨haf, hov⟩ := hB.after 300 300 (.inr (by decide))
        simp only [Bool.not_true, Bool.not_false] at hs2 hl2 hlg4 hlg5 haf hov
        have HF := Lib.hid (And.intro (hlg true) (And.intro hlg2 (And.intro hlg3 (And.intro (hlg false) (And.intro hlg4 hlg5)))))
        have HS := Lib.hid (And.intro hs1 (And.intro hl1 (And.intro hs2 hl2)))
        have HAF := Lib.hid (And.intro haf hov)
        have HFD : Hid (∀ W b q, Touch NoS wd W → wd.heap.size ≤ b → b < W.heap.size → nn ≤ q → Rd W (some ⟨b, 0, none⟩) (u8s (sb S)) → Calls Tryz.prog 17 #[.pointer (some ⟨g, 0, none⟩), .int .i64 1, .slice (some ⟨b, 0, none⟩) nn q] W fun e w' => e = .returned (.int .i64 nn) ∧ At17 w2 w' g X K gl gq 0 B1) := fun W b q t h1 h2 h3 h4 => by
          refine (HA4.out.feed (by omega) true (sb S) (sb_in S) (by rw [sb_length, HNN.out.1]; omega) W t b nn q h1 h2 (by rw [sb_length]; exact HNN.out.1) h3 h4).mono ?_
          rintro e w' ⟨rfl, h⟩
          rw [HSB.out, hfd] at h ⊢
          exact ⟨by rw [sb_length, HNN.out.2], h⟩
        clear hs1 hl1 hs2 hl2 hlg hlg2 hlg3 hlg4 hlg5 haf hov hB hmki hmko
        go_upto_region 7 with (fail)
        go_cut [12] (fun v wx => v = .int .i64 (1 + (more.size : Int)) ∧ At17 w2 wx g X K gl gq 0 B1)
        case first =>
          have h3c := HC3.out (wd.alloc (.cells #[.int .u8 bad] 5))
          have hcc := HCC.out
          go_wp2_with fail
          refine (HFD.out _ (wd.heap.size + 1) _ (((Touch.refl _ _).alloc _).trans h3c.1) (by omega) (by first | exact h3c.2.2.1 | simpa using h3c.2.2.1) (by first | exact h3c.2.2.2 | simpa using h3c.2.2.2) (by first | exact h3c.2.1 | simpa using h3c.2.1)).mono ?_
          rintro e w7 ⟨rfl, hA7⟩
          have HA7 := Lib.hid hA7
          clear hA7 h3c
          go_wp2_with fail
          go_meet
          exact ⟨by rw [HNN.out.2.symm]; simp [Int.add_comm], HA7.out⟩
        case rest =>
          obtain ⟨rfl, hA8⟩ := hcut
          obtain ⟨w8, rfl⟩ : ∃ we : World, we = wc := ⟨_, rfl⟩
          have HA8 := Lib.hid hA8
          clear hA8 hc2 HC3 HFD HA4 hfd
          go_wp2_with fail
          refine (b_leg HA8.out.is true).mono ?_
          rintro e w9 ⟨rfl, rfl⟩
          rw [HF.out.1, HF.out.2.1, HF.out.2.2.1]
          go_wp2_with fail
          refine (b_leg HA8.out.is false).mono ?_
          rintro e w9 ⟨rfl, rfl⟩
          rw [HF.out.2.2.2.1, HF.out.2.2.2.2.1, HF.out.2.2.2.2.2]
          go_wp2_with fail
          refine (HA8.out.take (by omega) true 300).mono ?_
          rintro e w9 ⟨⟨A9, c9, rfl, hr9⟩, hA9⟩
          have HA9 := Lib.hid hA9
          obtain ⟨nl, hnl⟩ : ∃ nl, (outB (B1 true) 300).length = nl := ⟨_, rfl⟩
          obtain ⟨P9, hP9, hS9, hcv9⟩ := str17 _ (outB_in HA8.out true 300) nl hnl
          have hcv := hcv9 w9 A9 c9 hr9
          have hsc9 : scan true 200 (sb P9) = ([outF true draw (ctlF 8 ⟨#[3, 234]⟩)], [], 0) := by rw [hS9]; exact HS.out.1
          have hnl2 : nl ≤ 200 := by rw [← hnl]; exact HS.out.2.1
          rw [hnl]
          clear hA9 hr9 hcv9 hS9 hnl HA8
          go_wp2_with fail
          refine (all17_one (s := P9) (mk := true) (by omega) hsc9 _).mono ?_
          rintro e w10 ⟨g10, c10, rfl, hg10a, hg10, a1, a7, ht10⟩
          rw [(outF_data _ _ _).1] at a1
          rw [(outF_data _ _ _).2] at a7
          have HE10 := Lib.hid (HA9.out.e.grow ht10)
          have hE10 : Hid ((g10 < w2.heap.size ∨ (w9.heap.size ≤ g10 ∧ g10 < w10.heap.size))) := .inr ⟨hg10a, hg10⟩
          clear ht10 HA9 hsc9 hcv hP9
          go_wp2_with fail
          refine (HE10.out.take (by omega) false 300).mono ?_
          rintro e w11 ⟨⟨A11, c11, rfl, hr11⟩, hA11, ht11⟩
          have hk1 := HE10.out.cell ht11 hE10.out a1
          have hk7 := HE10.out.cell ht11 hE10.out a7
          have HA11 := Lib.hid hA11.at
          obtain ⟨nm, hnm⟩ : ∃ nm, (outB (B1.take K true 300 false) 300).length = nm := ⟨_, rfl⟩
          obtain ⟨P11, hP11, hS11, hcv11⟩ := str17 _ (outB_in HE10.out.at false 300) nm hnm
          have hcv := hcv11 w11 A11 c11 hr11
          have hsc11 : scan false 200 (sb P11) = ([outF false draw (ctlF 8 ⟨#[3, 233]⟩)], [], 0) := by rw [hS11]; exact HS.out.2.2.1
          have hnm2 : nm ≤ 200 := by rw [← hnm]; exact HS.out.2.2.2
          have hg11 : g10 < w11.heap.size := Nat.lt_of_lt_of_le hg10 ht11.size
          rw [hnm]
          clear hA11 hr11 hcv11 hS11 hnm HE10 hE10 a1 a7 ht11 hg10 hg10a
          go_wp2_with fail
          refine (all17_one (s := P11) (mk := false) (by omega) hsc11 _).mono ?_
          rintro e w12 ⟨g12, c12, rfl, hg12a, hg12, y1, y7, ht12⟩
          rw [(outF_data _ _ _).1] at y1
          rw [(outF_data _ _ _).2] at y7
          have a1 : w12.cell? ⟨g10, 1, none⟩ = some (.int .i64 8) := ht12.cell hk1
          have a7 : w12.cell? ⟨g10, 7, none⟩ = some (.string ⟨#[3, 234]⟩) := ht12.cell hk7
          have b1 : w12.cell? ⟨g12, 1, none⟩ = some (.int .i64 8) := y1
          have b7 : w12.cell? ⟨g12, 7, none⟩ = some (.string ⟨#[3, 233]⟩) := y7
          have hg10 : g10 < w12.heap.size := Nat.lt_of_lt_of_le hg11 ht12.size
          have HA12 := Lib.hid (HA11.out.no ht12)
          have hcs := conv_const
          clear ht12 HA11 hsc11 hcv hP11 hk1 hk7 hg11 y1 y7
          go_wp2_with fail
          refine (HA12.out.feed (by omega) true [97, 98, 99] (fun x hx => by simp at hx; omega) (by simp) _ ((Touch.refl _ _).alloc _) w12.heap.size 3 3 (Nat.le_refl _) (by simp) rfl (Nat.le_refl _) (Rd.new w12 (u8s [97, 98, 99]) 5 (3, 4))).mono ?_
          rintro e w13 ⟨rfl, hA13⟩
          rw [deaf_feed _ HAF.out.1] at hA13 ⊢
          have HBO := Lib.hid (b_over hA13.is)
          rw [HAF.out.2] at HBO
          have HTF := Lib.hid (HT2.out.trans hA13.old)
          clear hA13 HA12
          go_wp2_with fail
          refine HBO.out.mono ?_
          rintro e w14 ⟨rfl, rfl⟩
          go_wp2_with fail
          go_ret
          exact ⟨rfl, HTF.out⟩
    · have h300i : ¬ ((more.size : Int) ≤ 300) := by omega
      go_wp2_with fail
      refine (aw17 _).mono ?_
      rintro e w5 ⟨rfl, ht⟩
      have HTF := Lib.hid ((HT2.out.trans HA4.out.old).trans ht)
      clear ht
      go_wp2_with fail
      go_ret
      exact ⟨rfl, HTF.out⟩
end Go.Proofs.YtlnabpoohnphiaaGreat
