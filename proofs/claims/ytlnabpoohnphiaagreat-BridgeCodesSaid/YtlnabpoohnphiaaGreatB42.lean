/- ref09: Get, whole. | law09: awake. -/
import Derived.Test.YtlnabpoohnphiaaGreatB41
import Derived.Test.YtlnabpoohnphiaaGreatB11
/- ref09: Get, whole. -/
namespace Go.Proofs.YtlnabpoohnphiaaGreat
open Go.RowKit
set_option linter.unusedSimpArgs false
set_option linter.unusedVariables false

theorem take_four (r : ByteArray) (h : 4 ≤ r.size) (a0 a1 a2 a3 : Int) (h0 : ((r[0].toNat : Nat) : Int) = a0) (h1 : ((r[1].toNat : Nat) : Int) = a1) (h2 : ((r[2].toNat : Nat) : Int) = a2) (h3 : ((r[3].toNat : Nat) : Int) = a3) : (sb r).take 4 = [a0, a1, a2, a3] := by
  have l : (sb r).length = r.size := sb_length r
  have g0 := sb_get r 0 (by omega)
  have g1 := sb_get r 1 (by omega)
  have g2 := sb_get r 2 (by omega)
  have g3 := sb_get r 3 (by omega)
  rw [h0] at g0
  rw [h1] at g1
  rw [h2] at g2
  rw [h3] at g3
  rcases hs : sb r with _ | ⟨b0, _ | ⟨b1, _ | ⟨b2, _ | ⟨b3, t⟩⟩⟩⟩
  · rw [hs] at l; simp at l; omega
  · rw [hs] at l; simp at l; omega
  · rw [hs] at l; simp at l; omega
  · rw [hs] at l; simp at l; omega
  · rw [hs] at g0 g1 g2 g3
    simp at g0 g1 g2 g3
    simp [g0, g1, g2, g3]

set_option maxHeartbeats 12800000 in
set_option maxRecDepth 100000 in
theorem r9_get_many (s : ByteArray) (hn1 : 1 < s.size) (hs : s.size ≤ 70368744177664) (x o v : Int) (fin cn : Bool) (most : Int) (hm : (Lit.int .i64 most).wf = true) (w : World)
    (hx : ((s[0].toNat : Nat) : Int) = x) (hx0 : 0 ≤ x) (hx1 : x ≤ 255) (hfin : decide (128 ≤ x) = fin) (ho : x % 16 = o) (hz : x / 16 % 8 = 0) (hc : control9 o = cn) (hk : known9 o = true)
    (hv : ((s[1].toNat : Nat) : Int) = v) (hv0 : 0 ≤ v) (hv1 : v ≤ 255) (hok : cn = true → fin = true ∧ ¬ 125 < v % 128) :
    Calls Tryz.prog 71 #[.string s, .int .i64 most] w fun e w' =>
      e = .returned (.tuple #[.agg (flen (sb s) most fin o).1.cs, .int .i64 (flen (sb s) most fin o).2.1, .int .i64 (flen (sb s) most fin o).2.2]) ∧ Touch NoS w w' := by
  obtain ⟨hne, hne2⟩ := str_ne s (by omega)
  have HC := Lib.hid (r9_control o)
  rw [hc] at HC
  have hvd : (sb s).getD 1 0 = v := by rw [← hv, sb_getD s 1 hn1]
  have HVD := Lib.hid hvd
  obtain ⟨hm0, hm1⟩ := (Lit.wf_int_iff .i64 most).1 hm
  rw [show IntKind.i64.min = -9223372036854775808 from rfl] at hm0
  rw [show IntKind.i64.max = 9223372036854775807 from rfl] at hm1
  obtain ⟨R, hR⟩ : ∃ R, R = flen (sb s) most fin o := ⟨_, rfl⟩
  rw [← hR]
  unfold flen at hR
  simp only at hR
  have hrest : sb (s.extract 1 s.size) = (sb s).drop 1 := by rw [sb_extract, List.take_of_length_le (by rw [sb_length]; exact Nat.le_refl _)]
  obtain ⟨gn, gk, ge, hG⟩ : ∃ gn gk ge, getLen ((sb s).drop 1) = (gn, gk, ge) := ⟨_, _, _, rfl⟩
  rw [hG] at hR
  simp only at hR
  have hGC : (ge = 80 ∧ gn = 0 ∧ gk = 0) ∨ (ge = 81 ∧ gn = 0 ∧ gk = 0) ∨ (ge = 0 ∧ 0 ≤ gn ∧ gn ≤ 9223372036854775807 ∧ 1 ≤ gk ∧ gk ≤ 9 ∧ gk ≤ s.size - 1) := by
    rcases getLen_cases ((sb_in s).drop 1) with h | h | ⟨a, b, h, h1, h2, h3, h4, h5⟩
    · rw [hG] at h; injection h with h1 h2; injection h2 with h2 h3; exact .inl ⟨h3, h1, h2⟩
    · rw [hG] at h; injection h with h1 h2; injection h2 with h2 h3; exact .inr (.inl ⟨h3, h1, h2⟩)
    · rw [hG] at h; injection h with ha hb'; injection hb' with hb' hc'; subst ha hb' hc'; rw [List.length_drop, sb_length] at h5; exact .inr (.inr ⟨rfl, h1, h2, h3, h4, h5⟩)
  have HMG := Lib.hid (fun W => r8_get (s.extract 1 s.size) (by simp; omega) W)
  rw [hrest, hG] at HMG
  simp only at HMG
  have HRR := Lib.hid hR
  have hcase : (cn = false ∧ 0 ≤ o ∧ o ≤ 2) ∨ (cn = true ∧ 2 < o) := by
    unfold known9 at hk
    unfold control9 at hc
    have := of_decide_eq_true hk
    cases cn
    · have h2 := of_decide_eq_false hc; left; exact ⟨rfl, by omega, by omega⟩
    · have h2 := of_decide_eq_true hc; right; exact ⟨rfl, by omega⟩
  have hpos' : (0 : Int) < s.size := by omega
  have hpos2 : (1 : Int) < s.size := by omega
  clear hc hk hm hR hrest hG hvd
  rcases hcase with ⟨rfl, o0, o1⟩ | ⟨rfl, o2⟩
  · clear hok
    go_enter Tryz.func71, Tryz.ntmps71
    go_wp2_with fail
    go_region
    obtain ⟨w1, hw1⟩ : ∃ w1, w1 = ((w.alloc (.cells Fr.zero.cs 42)).alloc (.cells (Fr.cs ⟨fin, o, false, 0, 0, 0, 0, ⟨#[]⟩⟩) 42)).drew := ⟨_, rfl⟩
    obtain ⟨hb4, hb7, ht⟩ : Blk w1 w.heap.size 42 Fr.zero.cs ∧ Blk w1 (w.heap.size + 1) 42 (Fr.cs ⟨fin, o, false, 0, 0, 0, 0, ⟨#[]⟩⟩) ∧ Touch NoS w w1 := by rw [hw1]; exact two_blocks _ _ _ _ _
    simp only [Fr.zero, Fr.cs] at hw1
    rw [← hw1]
    have c0 := hb7.cell 0
    have c1 := hb7.cell 1
    simp [Fr.cs] at c0 c1
    have HB4 := Lib.hid hb4
    have HB7 := Lib.hid hb7
    have HT := Lib.hid ht
    clear hb4 hb7 ht hw1
    go_wp2_with fail
    refine (HC.out _).mono ?_
    rintro e w2 ⟨rfl, rfl⟩
    go_wp2_with fail
    refine (HC.out _).mono ?_
    rintro e w2 ⟨rfl, rfl⟩
    go_wp2_with fail
    refine (HMG.out _).mono ?_
    rintro e w2 ⟨rfl, rfl⟩
    have b0 := HB7.out.cell 0
    have b2 := HB7.out.cell 2
    have f2 := HB7.out.frozen 2
    have gl2 := HB7.out.lt
    simp [Fr.cs] at b0 b2
    rcases hGC with ⟨rfl, rfl, rfl⟩ | ⟨rfl, rfl, rfl⟩ | ⟨rfl, hg0, hg1, hk0, hk1, hk2⟩
    · have hR := HRR.out
      rw [if_neg (by omega), if_pos (by omega)] at hR
      subst hR
      go_upto_region 12 with (fail)
      go_wp2_with (refine wpList_store_row rfl 42 (.tmp 4) (.tmp 78) rfl w.heap.size Fr.zero.cs rfl rfl 42 Fr.zero.cs HB4.out fr_info rfl (fr_one _) ?_; rw [setRow_same HB4.out])
      refine bodyPost_ret (v := .tuple #[.agg Fr.zero.cs, .int .i64 0, .int .i64 90]) (r9get_results _ _ _ _ _ _ rfl rfl rfl HB4.out) rfl ⟨rfl, HT.out⟩
    · have hR := HRR.out
      rw [if_pos (by omega)] at hR
      subst hR
      go_upto_region 10 with (fail)
      go_wp2_with (refine wpList_store_row rfl 42 (.tmp 4) (.tmp 75) rfl w.heap.size Fr.zero.cs rfl rfl 42 Fr.zero.cs HB4.out fr_info rfl (fr_one _) ?_; rw [setRow_same HB4.out])
      refine bodyPost_ret (v := .tuple #[.agg Fr.zero.cs, .int .i64 0, .int .i64 91]) (r9get_results _ _ _ _ _ _ rfl rfl rfl HB4.out) rfl ⟨rfl, HT.out⟩
    · have hR := HRR.out
      rw [if_neg (by omega), if_neg (by omega)] at hR
      by_cases hmo : most < 0
      · rw [if_pos (.inl hmo)] at hR
        subst hR
        go_upto_region 14 with (fail)
        go_wp2_with (refine wpList_store_row rfl 42 (.tmp 4) (.tmp 87) rfl w.heap.size Fr.zero.cs rfl rfl 42 Fr.zero.cs HB4.out fr_info rfl (fr_one _) ?_; rw [setRow_same HB4.out])
        refine bodyPost_ret (v := .tuple #[.agg Fr.zero.cs, .int .i64 0, .int .i64 92]) (r9get_results _ _ _ _ _ _ rfl rfl rfl HB4.out) rfl ⟨rfl, HT.out⟩
      by_cases hmn : most < gn
      · rw [if_pos (.inr hmn)] at hR
        subst hR
        have hmo' : 0 ≤ most := by omega
        clear hmo
        go_upto_region 14 with (fail)
        go_wp2_with (refine wpList_store_row rfl 42 (.tmp 4) (.tmp 87) rfl w.heap.size Fr.zero.cs rfl rfl 42 Fr.zero.cs HB4.out fr_info rfl (fr_one _) ?_; rw [setRow_same HB4.out])
        refine bodyPost_ret (v := .tuple #[.agg Fr.zero.cs, .int .i64 0, .int .i64 92]) (r9get_results _ _ _ _ _ _ rfl rfl rfl HB4.out) rfl ⟨rfl, HT.out⟩
      rw [if_neg (by omega)] at hR
      have hmo' : 0 ≤ most := by omega
      have hmn' : gn ≤ most := by omega
      clear hmo hmn
      unfold fmask at hR
      rw [HVD.out] at hR
      obtain ⟨gN, rfl⟩ := Int.eq_ofNat_of_zero_le hg0
      have i1 : (0 : Int) ≤ 1 + (gk : Int) := by omega
      have i2 : (1 : Int) + gk ≤ s.size := by omega
      have i3 : (1 + (gk : Int)).toNat = 1 + gk := by omega
      have HRd := Lib.hid hR
      clear hR
      by_cases hmv : 128 ≤ v
      · have hR := HRd.out
        rw [if_pos hmv] at hR
        have HRe := Lib.hid hR
        clear hR
        go_upto_region 17 with (fail)
        obtain ⟨q, hr⟩ : ∃ q, q = s.extract (1 + gk) s.size := ⟨_, rfl⟩
        rw [← hr]
        have hrs : sb q = (sb s).drop (1 + gk) := by rw [hr, sb_extract, List.take_of_length_le (by rw [sb_length]; exact Nat.le_refl _)]
        have hrz : q.size = s.size - (1 + gk) := by rw [← sb_length, hrs, List.length_drop, sb_length]
        have hrl : q.size ≤ 70368744177664 := by omega
        have hrl2 : q.size ≤ s.size := by omega
        have HQS := Lib.hid hrs
        have HQZ := Lib.hid hrz
        clear hr hrs hrz
        go_upto_region 18 with (fail)
        obtain ⟨w3, hw3⟩ : ∃ w3, w3 = w1.setCell ⟨w.heap.size + 1, 2, none⟩ (.bool true) := ⟨_, rfl⟩
        rw [← hw3]
        have HB4d := Lib.hid (HB4.out.far (p := ⟨w.heap.size + 1, 2, none⟩) (by simp) (.bool true))
        have HB7d : Hid (Blk _ _ _ (Fr.cs ⟨fin, o, true, 0, 0, 0, 0, ⟨#[]⟩⟩)) := Lib.hid (HB7.out.set_ 2 (.bool true))
        have HTd := Lib.hid (HT.out.setNew (p := ⟨w.heap.size + 1, 2, none⟩) (by simp) (.bool true))
        rw [← hw3] at HB4d HB7d HTd
        have b3 := HB7d.out.cell 3
        have b4 := HB7d.out.cell 4
        have b5 := HB7d.out.cell 5
        have b6 := HB7d.out.cell 6
        have f3 := HB7d.out.frozen 3
        have f4 := HB7d.out.frozen 4
        have f5 := HB7d.out.frozen 5
        have f6 := HB7d.out.frozen 6
        have gl3 := HB7d.out.lt
        simp [Fr.cs] at b3 b4 b5 b6
        clear hw3 HB4 HB7 HT b0 b2 f2 gl2 c0 c1
        by_cases hsh : q.size < 4
        · have hR := HRe.out
          rw [if_pos (by rw [sb_length]; have := HQZ.out; omega)] at hR
          subst hR
          go_upto_region 19 with (fail)
          go_wp2_with (refine wpList_store_row rfl 42 (.tmp 4) (.tmp 99) rfl w.heap.size Fr.zero.cs rfl rfl 42 Fr.zero.cs HB4d.out fr_info rfl (fr_one _) ?_; rw [setRow_same HB4d.out])
          refine bodyPost_ret (v := .tuple #[.agg Fr.zero.cs, .int .i64 0, .int .i64 90]) (r9get_results _ _ _ _ _ _ rfl rfl rfl HB4d.out) rfl ⟨rfl, HTd.out⟩
        have hR := HRe.out
        rw [if_neg (by rw [sb_length]; have := HQZ.out; omega)] at hR
        have hsh' : 4 ≤ q.size := by omega
        clear hsh
        obtain ⟨a0, h0⟩ : ∃ x, ((q[0].toNat : Nat) : Int) = x := ⟨_, rfl⟩
        obtain ⟨a1, h1⟩ : ∃ x, ((q[1].toNat : Nat) : Int) = x := ⟨_, rfl⟩
        obtain ⟨a2, h2⟩ : ∃ x, ((q[2].toNat : Nat) : Int) = x := ⟨_, rfl⟩
        obtain ⟨a3, h3⟩ : ∃ x, ((q[3].toNat : Nat) : Int) = x := ⟨_, rfl⟩
        have hK : ((sb s).drop (1 + gk)).take 4 = [a0, a1, a2, a3] := by rw [← HQS.out]; exact take_four q hsh' a0 a1 a2 a3 h0 h1 h2 h3
        have hKin : bytesIn [a0, a1, a2, a3] := by rw [← hK]; exact ((sb_in s).drop _).take _
        rw [hK] at hR
        unfold fdata at hR
        have HRd2 := Lib.hid hR
        have HKI := Lib.hid hKin
        have j0 : (0 : Int) < q.size := by omega
        have j1 : (1 : Int) < q.size := by omega
        have j2 : (2 : Int) < q.size := by omega
        have j3 : (3 : Int) < q.size := by omega
        clear hR hK hKin
        go_upto_region 20 with (fail)
        go_region
        obtain ⟨w4, hw4⟩ : ∃ w4, w4 = ((((w3.setCell ⟨w.heap.size + 1, 3, none⟩ (.int .u8 a0)).setCell ⟨w.heap.size + 1, 4, none⟩ (.int .u8 a1)).setCell ⟨w.heap.size + 1, 5, none⟩ (.int .u8 a2)).setCell ⟨w.heap.size + 1, 6, none⟩ (.int .u8 a3)).drew := ⟨_, rfl⟩
        rw [← hw4]
        have HB4c : Hid (Blk w4 w.heap.size 42 Fr.zero.cs) := by rw [hw4]; exact ((((HB4d.out.far (by simp) _).far (by simp) _).far (by simp) _).far (by simp) _).drew
        have HB7c : Hid (Blk w4 (w.heap.size + 1) 42 (Fr.cs ⟨fin, o, true, a0, a1, a2, a3, ⟨#[]⟩⟩)) := by rw [hw4]; exact ((((HB7d.out.set_ 3 _).set_ 4 _).set_ 5 _).set_ 6 _).drew
        have HT3 : Hid (Touch NoS w w4) := by rw [hw4]; exact ((((HTd.out.setNew (by simp) _).setNew (by simp) _).setNew (by simp) _).setNew (by simp) _).drew
        have HRe := Lib.hid HRd2.out
        clear hw4 HB4d HB7d HTd b3 b4 b5 b6 f3 f4 f5 f6 gl3 h0 h1 h2 h3 j0 j1 j2 HRd2
        have b2 := HB7c.out.cell 2
        have b3 := HB7c.out.cell 3
        have b4 := HB7c.out.cell 4
        have b5 := HB7c.out.cell 5
        have b6 := HB7c.out.cell 6
        have b7 := HB7c.out.cell 7
        simp [Fr.cs] at b2 b3 b4 b5 b6 b7
        go_upto_region 22 with (fail)
        obtain ⟨r, hr⟩ : ∃ r, r = q.extract 4 q.size := ⟨_, rfl⟩
        rw [← hr]
        have hrs : sb r = (sb s).drop (1 + gk + 4) := by rw [hr, sb_extract, List.take_of_length_le (by rw [sb_length]; exact Nat.le_refl _), HQS.out, List.drop_drop]
        have hrz : r.size = s.size - (1 + gk + 4) := by rw [← sb_length, hrs, List.length_drop, sb_length]
        have hrl3 : r.size ≤ 70368744177664 := by omega
        have hrl4 : r.size ≤ s.size := by omega
        have HRS := Lib.hid hrs
        have HRZ := Lib.hid hrz
        clear hr hrs hrz j3 hsh'
        by_cases hsd : r.size < gN
        · have hR := HRe.out
          rw [if_pos (by rw [sb_length]; have := HRZ.out; omega)] at hR
          subst hR
          go_upto_region 23 with (fail)
          go_wp2_with (refine wpList_store_row rfl 42 (.tmp 4) (.tmp 117) rfl w.heap.size Fr.zero.cs rfl rfl 42 Fr.zero.cs HB4c.out fr_info rfl (fr_one _) ?_; rw [setRow_same HB4c.out])
          refine bodyPost_ret (v := .tuple #[.agg Fr.zero.cs, .int .i64 0, .int .i64 90]) (r9get_results _ _ _ _ _ _ rfl rfl rfl HB4c.out) rfl ⟨rfl, HT3.out⟩
        have hR := HRe.out
        rw [if_neg (by rw [sb_length]; have := HRZ.out; omega)] at hR
        have HR2 := Lib.hid hR
        have hgr : gN ≤ r.size := by omega
        have hseg : sb (r.extract 0 gN) = ((sb s).drop (1 + gk + 4)).take gN := by rw [sb_extract, List.drop_zero, HRS.out]
        have HSEG := Lib.hid hseg
        have HAP : Hid (∀ W : World, Calls Tryz.prog 35 #[.agg #[.int .u8 a0, .int .u8 a1, .int .u8 a2, .int .u8 a3], .int .i64 0, .string (r.extract 0 gN)] W fun e w' =>
            e = .returned (.string (Go.strOfNums (turn [a0, a1, a2, a3] 0 (sb (r.extract 0 gN))))) ∧ Touch NoS W w') := fun W => r8_apply a0 a1 a2 a3 HKI.out (r.extract 0 gN) (by simp; omega) W
        obtain ⟨D, hD⟩ : ∃ D, D = Go.strOfNums (turn [a0, a1, a2, a3] 0 (sb (r.extract 0 gN))) := ⟨_, rfl⟩
        rw [← hD] at HAP
        have HDD := Lib.hid hD
        clear hR hsd hseg hD
        go_wp2_with fail
        go_region_with ((go_at_call 35; refine (HAP.out _).mono ?_; rintro e w5 ⟨rfl, ht⟩; have q3 := ht.cell (w := w4.drew) b3; have q4 := ht.cell (w := w4.drew) b4; have q5 := ht.cell (w := w4.drew) b5; have q6 := ht.cell (w := w4.drew) b6; have q7 := ht.cell (w := w4.drew) b7; have hb75 := (HB7c.out.drew.touch ht (fun h => h)); have f7 := hb75.frozen 7; have l7 := hb75.lt; have HB75 := Lib.hid hb75; clear hb75))
        obtain ⟨w6, hw6⟩ : ∃ w6, w6 = w5.setCell ⟨w.heap.size + 1, 7, none⟩ (.string D) := ⟨_, rfl⟩
        rw [← hw6]
        have HB76 : Hid (Blk w6 (w.heap.size + 1) 42 (Fr.cs ⟨fin, o, true, a0, a1, a2, a3, D⟩)) := by rw [hw6]; exact HB75.out.set_ 7 _
        have HB46 : Hid (Blk w6 w.heap.size 42 Fr.zero.cs) := by rw [hw6]; exact (HB4c.out.drew.touch ht (fun h => h)).far (by simp) _
        have HT6 : Hid (Touch NoS w w6) := by rw [hw6]; exact (HT3.out.drew.trans ht).setNew (by simp) _
        clear hw6 HB75 HB4c HB7c HT3 ht q3 q4 q5 q6 q7 f7 l7 b2 b3 b4 b5 b6 b7 HAP
        have g1 : (0 : Int) ≤ (s.size : Int) - r.size := by omega
        have g2 : IntKind.i64.wrap ((s.size : Int) - r.size) = (s.size : Int) - r.size := IntWalk.i64_in _ (by omega)
        have g3 : IntKind.i64.wrap ((s.size : Int) - r.size + gN) = (s.size : Int) - r.size + gN := IntWalk.i64_in _ (by omega)
        go_wp2_with (first
          | (refine wpList_load_row rfl 42 (.tmp 7) rfl (w.heap.size + 1) rfl 42 _ (0, 0) _ HB76.out Tryz.underlying42 rfl fr_info ?_)
          | (refine wpList_store_row rfl 42 (.tmp 4) (.tmp 125) rfl w.heap.size (Fr.cs ⟨fin, o, true, a0, a1, a2, a3, D⟩) rfl rfl 42 Fr.zero.cs HB46.out fr_info rfl (fr_one _) ?_))
        have hR := HR2.out
        rw [Int.toNat_natCast, ← HSEG.out, ← HDD.out] at hR
        subst hR
        have e : ((1 + gk + 4 + gN : Nat) : Int) = (s.size : Int) - r.size + gN := by have := HRZ.out; have := HQZ.out; omega
        refine bodyPost_ret (v := .tuple #[.agg (Fr.cs ⟨fin, o, true, a0, a1, a2, a3, D⟩), .int .i64 ((s.size : Int) - r.size + gN), .int .i64 0]) (r9get_results _ _ _ _ _ _ rfl rfl rfl HB46.out.row) rfl ⟨by rw [← e]; rfl, HT6.out.row (Nat.le_refl _) _⟩
      · have hR := HRd.out
        rw [if_neg hmv] at hR
        unfold fdata at hR
        have HRe := Lib.hid hR
        clear hR
        go_upto_region 22 with (fail)
        obtain ⟨r, hr⟩ : ∃ r, r = s.extract (1 + gk) s.size := ⟨_, rfl⟩
        rw [← hr]
        have hrs : sb r = (sb s).drop (1 + gk) := by rw [hr, sb_extract, List.take_of_length_le (by rw [sb_length]; exact Nat.le_refl _)]
        have hrz : r.size = s.size - (1 + gk) := by rw [← sb_length, hrs, List.length_drop, sb_length]
        have hrl : r.size ≤ 70368744177664 := by omega
        have hrl2 : r.size ≤ s.size := by omega
        have HRS := Lib.hid hrs
        have HRZ := Lib.hid hrz
        clear hr hrs hrz
        have HB4c := Lib.hid HB4.out
        have HB7c := Lib.hid HB7.out
        have HT3 := Lib.hid HT.out
        clear HB4 HB7 HT b0 b2 f2 gl2 c0 c1
        have b2 := HB7c.out.cell 2
        have b3 := HB7c.out.cell 3
        have b4 := HB7c.out.cell 4
        have b5 := HB7c.out.cell 5
        have b6 := HB7c.out.cell 6
        have b7 := HB7c.out.cell 7
        simp [Fr.cs] at b2 b3 b4 b5 b6 b7
        by_cases hsd : r.size < gN
        · have hR := HRe.out
          rw [if_pos (by rw [sb_length]; have := HRZ.out; omega)] at hR
          subst hR
          go_upto_region 23 with (fail)
          go_wp2_with (refine wpList_store_row rfl 42 (.tmp 4) (.tmp 117) rfl w.heap.size Fr.zero.cs rfl rfl 42 Fr.zero.cs HB4c.out fr_info rfl (fr_one _) ?_; rw [setRow_same HB4c.out])
          refine bodyPost_ret (v := .tuple #[.agg Fr.zero.cs, .int .i64 0, .int .i64 90]) (r9get_results _ _ _ _ _ _ rfl rfl rfl HB4c.out) rfl ⟨rfl, HT3.out⟩
        have hR := HRe.out
        rw [if_neg (by rw [sb_length]; have := HRZ.out; omega)] at hR
        have HR2 := Lib.hid hR
        have hgr : gN ≤ r.size := by omega
        have hseg : sb (r.extract 0 gN) = ((sb s).drop (1 + gk)).take gN := by rw [sb_extract, List.drop_zero, HRS.out]
        have HSEG := Lib.hid hseg
        have HAP : Hid (∀ W : World, Calls Tryz.prog 35 #[.agg #[.int .u8 0, .int .u8 0, .int .u8 0, .int .u8 0], .int .i64 0, .string (r.extract 0 gN)] W fun e w' =>
            e = .returned (.string (Go.strOfNums (turn [0, 0, 0, 0] 0 (sb (r.extract 0 gN))))) ∧ Touch NoS W w') := fun W => r8_apply 0 0 0 0 (by intro x hx; simp at hx; omega) (r.extract 0 gN) (by simp; omega) W
        obtain ⟨D, hD⟩ : ∃ D, D = Go.strOfNums (turn [0, 0, 0, 0] 0 (sb (r.extract 0 gN))) := ⟨_, rfl⟩
        rw [← hD] at HAP
        have HDD := Lib.hid hD
        clear hR hsd hseg hD
        go_wp2_with fail
        go_region_with ((go_at_call 35; refine (HAP.out _).mono ?_; rintro e w5 ⟨rfl, ht⟩; have q3 := ht.cell (w := w1.drew) b3; have q4 := ht.cell (w := w1.drew) b4; have q5 := ht.cell (w := w1.drew) b5; have q6 := ht.cell (w := w1.drew) b6; have q7 := ht.cell (w := w1.drew) b7; have hb75 := (HB7c.out.drew.touch ht (fun h => h)); have f7 := hb75.frozen 7; have l7 := hb75.lt; have HB75 := Lib.hid hb75; clear hb75))
        obtain ⟨w6, hw6⟩ : ∃ w6, w6 = w5.setCell ⟨w.heap.size + 1, 7, none⟩ (.string D) := ⟨_, rfl⟩
        rw [← hw6]
        have HB76 : Hid (Blk w6 (w.heap.size + 1) 42 (Fr.cs ⟨fin, o, false, 0, 0, 0, 0, D⟩)) := by rw [hw6]; exact HB75.out.set_ 7 _
        have HB46 : Hid (Blk w6 w.heap.size 42 Fr.zero.cs) := by rw [hw6]; exact (HB4c.out.drew.touch ht (fun h => h)).far (by simp) _
        have HT6 : Hid (Touch NoS w w6) := by rw [hw6]; exact (HT3.out.drew.trans ht).setNew (by simp) _
        clear hw6 HB75 HB4c HB7c HT3 ht q3 q4 q5 q6 q7 f7 l7 b2 b3 b4 b5 b6 b7 HAP
        have g1 : (0 : Int) ≤ (s.size : Int) - r.size := by omega
        have g2 : IntKind.i64.wrap ((s.size : Int) - r.size) = (s.size : Int) - r.size := IntWalk.i64_in _ (by omega)
        have g3 : IntKind.i64.wrap ((s.size : Int) - r.size + gN) = (s.size : Int) - r.size + gN := IntWalk.i64_in _ (by omega)
        go_wp2_with (first
          | (refine wpList_load_row rfl 42 (.tmp 7) rfl (w.heap.size + 1) rfl 42 _ (0, 0) _ HB76.out Tryz.underlying42 rfl fr_info ?_)
          | (refine wpList_store_row rfl 42 (.tmp 4) (.tmp 125) rfl w.heap.size (Fr.cs ⟨fin, o, false, 0, 0, 0, 0, D⟩) rfl rfl 42 Fr.zero.cs HB46.out fr_info rfl (fr_one _) ?_))
        have hR := HR2.out
        rw [Int.toNat_natCast, ← HSEG.out, ← HDD.out] at hR
        subst hR
        have e : ((1 + gk + gN : Nat) : Int) = (s.size : Int) - r.size + gN := by have := HRZ.out; omega
        refine bodyPost_ret (v := .tuple #[.agg (Fr.cs ⟨fin, o, false, 0, 0, 0, 0, D⟩), .int .i64 ((s.size : Int) - r.size + gN), .int .i64 0]) (r9get_results _ _ _ _ _ _ rfl rfl rfl HB46.out.row) rfl ⟨by rw [← e]; rfl, HT6.out.row (Nat.le_refl _) _⟩
  · obtain ⟨rfl, h125⟩ := hok rfl
    clear hok
    go_enter Tryz.func71, Tryz.ntmps71
    go_wp2_with fail
    go_region
    obtain ⟨w1, hw1⟩ : ∃ w1, w1 = ((w.alloc (.cells Fr.zero.cs 42)).alloc (.cells (Fr.cs ⟨true, o, false, 0, 0, 0, 0, ⟨#[]⟩⟩) 42)).drew := ⟨_, rfl⟩
    obtain ⟨hb4, hb7, ht⟩ : Blk w1 w.heap.size 42 Fr.zero.cs ∧ Blk w1 (w.heap.size + 1) 42 (Fr.cs ⟨true, o, false, 0, 0, 0, 0, ⟨#[]⟩⟩) ∧ Touch NoS w w1 := by rw [hw1]; exact two_blocks _ _ _ _ _
    simp only [Fr.zero, Fr.cs] at hw1
    rw [← hw1]
    have c0 := hb7.cell 0
    have c1 := hb7.cell 1
    simp [Fr.cs] at c0 c1
    have HB4 := Lib.hid hb4
    have HB7 := Lib.hid hb7
    have HT := Lib.hid ht
    clear hb4 hb7 ht hw1
    go_wp2_with fail
    refine (HC.out _).mono ?_
    rintro e w2 ⟨rfl, rfl⟩
    go_wp2_with fail
    refine (HC.out _).mono ?_
    rintro e w2 ⟨rfl, rfl⟩
    go_wp2_with fail
    refine (HC.out _).mono ?_
    rintro e w2 ⟨rfl, rfl⟩
    go_wp2_with fail
    refine (HMG.out _).mono ?_
    rintro e w2 ⟨rfl, rfl⟩
    have b0 := HB7.out.cell 0
    have b2 := HB7.out.cell 2
    have f2 := HB7.out.frozen 2
    have gl2 := HB7.out.lt
    simp [Fr.cs] at b0 b2
    rcases hGC with ⟨rfl, rfl, rfl⟩ | ⟨rfl, rfl, rfl⟩ | ⟨rfl, hg0, hg1, hk0, hk1, hk2⟩
    · have hR := HRR.out
      rw [if_neg (by omega), if_pos (by omega)] at hR
      subst hR
      go_upto_region 12 with (fail)
      go_wp2_with (refine wpList_store_row rfl 42 (.tmp 4) (.tmp 78) rfl w.heap.size Fr.zero.cs rfl rfl 42 Fr.zero.cs HB4.out fr_info rfl (fr_one _) ?_; rw [setRow_same HB4.out])
      refine bodyPost_ret (v := .tuple #[.agg Fr.zero.cs, .int .i64 0, .int .i64 90]) (r9get_results _ _ _ _ _ _ rfl rfl rfl HB4.out) rfl ⟨rfl, HT.out⟩
    · have hR := HRR.out
      rw [if_pos (by omega)] at hR
      subst hR
      go_upto_region 10 with (fail)
      go_wp2_with (refine wpList_store_row rfl 42 (.tmp 4) (.tmp 75) rfl w.heap.size Fr.zero.cs rfl rfl 42 Fr.zero.cs HB4.out fr_info rfl (fr_one _) ?_; rw [setRow_same HB4.out])
      refine bodyPost_ret (v := .tuple #[.agg Fr.zero.cs, .int .i64 0, .int .i64 91]) (r9get_results _ _ _ _ _ _ rfl rfl rfl HB4.out) rfl ⟨rfl, HT.out⟩
    · have hR := HRR.out
      rw [if_neg (by omega), if_neg (by omega)] at hR
      by_cases hmo : most < 0
      · rw [if_pos (.inl hmo)] at hR
        subst hR
        go_upto_region 14 with (fail)
        go_wp2_with (refine wpList_store_row rfl 42 (.tmp 4) (.tmp 87) rfl w.heap.size Fr.zero.cs rfl rfl 42 Fr.zero.cs HB4.out fr_info rfl (fr_one _) ?_; rw [setRow_same HB4.out])
        refine bodyPost_ret (v := .tuple #[.agg Fr.zero.cs, .int .i64 0, .int .i64 92]) (r9get_results _ _ _ _ _ _ rfl rfl rfl HB4.out) rfl ⟨rfl, HT.out⟩
      by_cases hmn : most < gn
      · rw [if_pos (.inr hmn)] at hR
        subst hR
        have hmo' : 0 ≤ most := by omega
        clear hmo
        go_upto_region 14 with (fail)
        go_wp2_with (refine wpList_store_row rfl 42 (.tmp 4) (.tmp 87) rfl w.heap.size Fr.zero.cs rfl rfl 42 Fr.zero.cs HB4.out fr_info rfl (fr_one _) ?_; rw [setRow_same HB4.out])
        refine bodyPost_ret (v := .tuple #[.agg Fr.zero.cs, .int .i64 0, .int .i64 92]) (r9get_results _ _ _ _ _ _ rfl rfl rfl HB4.out) rfl ⟨rfl, HT.out⟩
      rw [if_neg (by omega)] at hR
      have hmo' : 0 ≤ most := by omega
      have hmn' : gn ≤ most := by omega
      clear hmo hmn
      unfold fmask at hR
      rw [HVD.out] at hR
      obtain ⟨gN, rfl⟩ := Int.eq_ofNat_of_zero_le hg0
      have i1 : (0 : Int) ≤ 1 + (gk : Int) := by omega
      have i2 : (1 : Int) + gk ≤ s.size := by omega
      have i3 : (1 + (gk : Int)).toNat = 1 + gk := by omega
      have HRd := Lib.hid hR
      clear hR
      by_cases hmv : 128 ≤ v
      · have hR := HRd.out
        rw [if_pos hmv] at hR
        have HRe := Lib.hid hR
        clear hR
        go_upto_region 17 with (fail)
        obtain ⟨q, hr⟩ : ∃ q, q = s.extract (1 + gk) s.size := ⟨_, rfl⟩
        rw [← hr]
        have hrs : sb q = (sb s).drop (1 + gk) := by rw [hr, sb_extract, List.take_of_length_le (by rw [sb_length]; exact Nat.le_refl _)]
        have hrz : q.size = s.size - (1 + gk) := by rw [← sb_length, hrs, List.length_drop, sb_length]
        have hrl : q.size ≤ 70368744177664 := by omega
        have hrl2 : q.size ≤ s.size := by omega
        have HQS := Lib.hid hrs
        have HQZ := Lib.hid hrz
        clear hr hrs hrz
        go_upto_region 18 with (fail)
        obtain ⟨w3, hw3⟩ : ∃ w3, w3 = w1.setCell ⟨w.heap.size + 1, 2, none⟩ (.bool true) := ⟨_, rfl⟩
        rw [← hw3]
        have HB4d := Lib.hid (HB4.out.far (p := ⟨w.heap.size + 1, 2, none⟩) (by simp) (.bool true))
        have HB7d : Hid (Blk _ _ _ (Fr.cs ⟨true, o, true, 0, 0, 0, 0, ⟨#[]⟩⟩)) := Lib.hid (HB7.out.set_ 2 (.bool true))
        have HTd := Lib.hid (HT.out.setNew (p := ⟨w.heap.size + 1, 2, none⟩) (by simp) (.bool true))
        rw [← hw3] at HB4d HB7d HTd
        have b3 := HB7d.out.cell 3
        have b4 := HB7d.out.cell 4
        have b5 := HB7d.out.cell 5
        have b6 := HB7d.out.cell 6
        have f3 := HB7d.out.frozen 3
        have f4 := HB7d.out.frozen 4
        have f5 := HB7d.out.frozen 5
        have f6 := HB7d.out.frozen 6
        have gl3 := HB7d.out.lt
        simp [Fr.cs] at b3 b4 b5 b6
        clear hw3 HB4 HB7 HT b0 b2 f2 gl2 c0 c1
        by_cases hsh : q.size < 4
        · have hR := HRe.out
          rw [if_pos (by rw [sb_length]; have := HQZ.out; omega)] at hR
          subst hR
          go_upto_region 19 with (fail)
          go_wp2_with (refine wpList_store_row rfl 42 (.tmp 4) (.tmp 99) rfl w.heap.size Fr.zero.cs rfl rfl 42 Fr.zero.cs HB4d.out fr_info rfl (fr_one _) ?_; rw [setRow_same HB4d.out])
          refine bodyPost_ret (v := .tuple #[.agg Fr.zero.cs, .int .i64 0, .int .i64 90]) (r9get_results _ _ _ _ _ _ rfl rfl rfl HB4d.out) rfl ⟨rfl, HTd.out⟩
        have hR := HRe.out
        rw [if_neg (by rw [sb_length]; have := HQZ.out; omega)] at hR
        have hsh' : 4 ≤ q.size := by omega
        clear hsh
        obtain ⟨a0, h0⟩ : ∃ x, ((q[0].toNat : Nat) : Int) = x := ⟨_, rfl⟩
        obtain ⟨a1, h1⟩ : ∃ x, ((q[1].toNat : Nat) : Int) = x := ⟨_, rfl⟩
        obtain ⟨a2, h2⟩ : ∃ x, ((q[2].toNat : Nat) : Int) = x := ⟨_, rfl⟩
        obtain ⟨a3, h3⟩ : ∃ x, ((q[3].toNat : Nat) : Int) = x := ⟨_, rfl⟩
        have hK : ((sb s).drop (1 + gk)).take 4 = [a0, a1, a2, a3] := by rw [← HQS.out]; exact take_four q hsh' a0 a1 a2 a3 h0 h1 h2 h3
        have hKin : bytesIn [a0, a1, a2, a3] := by rw [← hK]; exact ((sb_in s).drop _).take _
        rw [hK] at hR
        unfold fdata at hR
        have HRd2 := Lib.hid hR
        have HKI := Lib.hid hKin
        have j0 : (0 : Int) < q.size := by omega
        have j1 : (1 : Int) < q.size := by omega
        have j2 : (2 : Int) < q.size := by omega
        have j3 : (3 : Int) < q.size := by omega
        clear hR hK hKin
        go_upto_region 20 with (fail)
        go_region
        obtain ⟨w4, hw4⟩ : ∃ w4, w4 = ((((w3.setCell ⟨w.heap.size + 1, 3, none⟩ (.int .u8 a0)).setCell ⟨w.heap.size + 1, 4, none⟩ (.int .u8 a1)).setCell ⟨w.heap.size + 1, 5, none⟩ (.int .u8 a2)).setCell ⟨w.heap.size + 1, 6, none⟩ (.int .u8 a3)).drew := ⟨_, rfl⟩
        rw [← hw4]
        have HB4c : Hid (Blk w4 w.heap.size 42 Fr.zero.cs) := by rw [hw4]; exact ((((HB4d.out.far (by simp) _).far (by simp) _).far (by simp) _).far (by simp) _).drew
        have HB7c : Hid (Blk w4 (w.heap.size + 1) 42 (Fr.cs ⟨true, o, true, a0, a1, a2, a3, ⟨#[]⟩⟩)) := by rw [hw4]; exact ((((HB7d.out.set_ 3 _).set_ 4 _).set_ 5 _).set_ 6 _).drew
        have HT3 : Hid (Touch NoS w w4) := by rw [hw4]; exact ((((HTd.out.setNew (by simp) _).setNew (by simp) _).setNew (by simp) _).setNew (by simp) _).drew
        have HRe := Lib.hid HRd2.out
        clear hw4 HB4d HB7d HTd b3 b4 b5 b6 f3 f4 f5 f6 gl3 h0 h1 h2 h3 j0 j1 j2 HRd2
        have b2 := HB7c.out.cell 2
        have b3 := HB7c.out.cell 3
        have b4 := HB7c.out.cell 4
        have b5 := HB7c.out.cell 5
        have b6 := HB7c.out.cell 6
        have b7 := HB7c.out.cell 7
        simp [Fr.cs] at b2 b3 b4 b5 b6 b7
        go_upto_region 22 with (fail)
        obtain ⟨r, hr⟩ : ∃ r, r = q.extract 4 q.size := ⟨_, rfl⟩
        rw [← hr]
        have hrs : sb r = (sb s).drop (1 + gk + 4) := by rw [hr, sb_extract, List.take_of_length_le (by rw [sb_length]; exact Nat.le_refl _), HQS.out, List.drop_drop]
        have hrz : r.size = s.size - (1 + gk + 4) := by rw [← sb_length, hrs, List.length_drop, sb_length]
        have hrl3 : r.size ≤ 70368744177664 := by omega
        have hrl4 : r.size ≤ s.size := by omega
        have HRS := Lib.hid hrs
        have HRZ := Lib.hid hrz
        clear hr hrs hrz j3 hsh'
        by_cases hsd : r.size < gN
        · have hR := HRe.out
          rw [if_pos (by rw [sb_length]; have := HRZ.out; omega)] at hR
          subst hR
          go_upto_region 23 with (fail)
          go_wp2_with (refine wpList_store_row rfl 42 (.tmp 4) (.tmp 117) rfl w.heap.size Fr.zero.cs rfl rfl 42 Fr.zero.cs HB4c.out fr_info rfl (fr_one _) ?_; rw [setRow_same HB4c.out])
          refine bodyPost_ret (v := .tuple #[.agg Fr.zero.cs, .int .i64 0, .int .i64 90]) (r9get_results _ _ _ _ _ _ rfl rfl rfl HB4c.out) rfl ⟨rfl, HT3.out⟩
        have hR := HRe.out
        rw [if_neg (by rw [sb_length]; have := HRZ.out; omega)] at hR
        have HR2 := Lib.hid hR
        have hgr : gN ≤ r.size := by omega
        have hseg : sb (r.extract 0 gN) = ((sb s).drop (1 + gk + 4)).take gN := by rw [sb_extract, List.drop_zero, HRS.out]
        have HSEG := Lib.hid hseg
        have HAP : Hid (∀ W : World, Calls Tryz.prog 35 #[.agg #[.int .u8 a0, .int .u8 a1, .int .u8 a2, .int .u8 a3], .int .i64 0, .string (r.extract 0 gN)] W fun e w' =>
            e = .returned (.string (Go.strOfNums (turn [a0, a1, a2, a3] 0 (sb (r.extract 0 gN))))) ∧ Touch NoS W w') := fun W => r8_apply a0 a1 a2 a3 HKI.out (r.extract 0 gN) (by simp; omega) W
        obtain ⟨D, hD⟩ : ∃ D, D = Go.strOfNums (turn [a0, a1, a2, a3] 0 (sb (r.extract 0 gN))) := ⟨_, rfl⟩
        rw [← hD] at HAP
        have HDD := Lib.hid hD
        clear hR hsd hseg hD
        go_wp2_with fail
        go_region_with ((go_at_call 35; refine (HAP.out _).mono ?_; rintro e w5 ⟨rfl, ht⟩; have q3 := ht.cell (w := w4.drew) b3; have q4 := ht.cell (w := w4.drew) b4; have q5 := ht.cell (w := w4.drew) b5; have q6 := ht.cell (w := w4.drew) b6; have q7 := ht.cell (w := w4.drew) b7; have hb75 := (HB7c.out.drew.touch ht (fun h => h)); have f7 := hb75.frozen 7; have l7 := hb75.lt; have HB75 := Lib.hid hb75; clear hb75))
        obtain ⟨w6, hw6⟩ : ∃ w6, w6 = w5.setCell ⟨w.heap.size + 1, 7, none⟩ (.string D) := ⟨_, rfl⟩
        rw [← hw6]
        have HB76 : Hid (Blk w6 (w.heap.size + 1) 42 (Fr.cs ⟨true, o, true, a0, a1, a2, a3, D⟩)) := by rw [hw6]; exact HB75.out.set_ 7 _
        have HB46 : Hid (Blk w6 w.heap.size 42 Fr.zero.cs) := by rw [hw6]; exact (HB4c.out.drew.touch ht (fun h => h)).far (by simp) _
        have HT6 : Hid (Touch NoS w w6) := by rw [hw6]; exact (HT3.out.drew.trans ht).setNew (by simp) _
        clear hw6 HB75 HB4c HB7c HT3 ht q3 q4 q5 q6 q7 f7 l7 b2 b3 b4 b5 b6 b7 HAP
        have g1 : (0 : Int) ≤ (s.size : Int) - r.size := by omega
        have g2 : IntKind.i64.wrap ((s.size : Int) - r.size) = (s.size : Int) - r.size := IntWalk.i64_in _ (by omega)
        have g3 : IntKind.i64.wrap ((s.size : Int) - r.size + gN) = (s.size : Int) - r.size + gN := IntWalk.i64_in _ (by omega)
        go_wp2_with (first
          | (refine wpList_load_row rfl 42 (.tmp 7) rfl (w.heap.size + 1) rfl 42 _ (0, 0) _ HB76.out Tryz.underlying42 rfl fr_info ?_)
          | (refine wpList_store_row rfl 42 (.tmp 4) (.tmp 125) rfl w.heap.size (Fr.cs ⟨true, o, true, a0, a1, a2, a3, D⟩) rfl rfl 42 Fr.zero.cs HB46.out fr_info rfl (fr_one _) ?_))
        have hR := HR2.out
        rw [Int.toNat_natCast, ← HSEG.out, ← HDD.out] at hR
        subst hR
        have e : ((1 + gk + 4 + gN : Nat) : Int) = (s.size : Int) - r.size + gN := by have := HRZ.out; have := HQZ.out; omega
        refine bodyPost_ret (v := .tuple #[.agg (Fr.cs ⟨true, o, true, a0, a1, a2, a3, D⟩), .int .i64 ((s.size : Int) - r.size + gN), .int .i64 0]) (r9get_results _ _ _ _ _ _ rfl rfl rfl HB46.out.row) rfl ⟨by rw [← e]; rfl, HT6.out.row (Nat.le_refl _) _⟩
      · have hR := HRd.out
        rw [if_neg hmv] at hR
        unfold fdata at hR
        have HRe := Lib.hid hR
        clear hR
        go_upto_region 22 with (fail)
        obtain ⟨r, hr⟩ : ∃ r, r = s.extract (1 + gk) s.size := ⟨_, rfl⟩
        rw [← hr]
        have hrs : sb r = (sb s).drop (1 + gk) := by rw [hr, sb_extract, List.take_of_length_le (by rw [sb_length]; exact Nat.le_refl _)]
        have hrz : r.size = s.size - (1 + gk) := by rw [← sb_length, hrs, List.length_drop, sb_length]
        have hrl : r.size ≤ 70368744177664 := by omega
        have hrl2 : r.size ≤ s.size := by omega
        have HRS := Lib.hid hrs
        have HRZ := Lib.hid hrz
        clear hr hrs hrz
        have HB4c := Lib.hid HB4.out
        have HB7c := Lib.hid HB7.out
        have HT3 := Lib.hid HT.out
        clear HB4 HB7 HT b0 b2 f2 gl2 c0 c1
        have b2 := HB7c.out.cell 2
        have b3 := HB7c.out.cell 3
        have b4 := HB7c.out.cell 4
        have b5 := HB7c.out.cell 5
        have b6 := HB7c.out.cell 6
        have b7 := HB7c.out.cell 7
        simp [Fr.cs] at b2 b3 b4 b5 b6 b7
        by_cases hsd : r.size < gN
        · have hR := HRe.out
          rw [if_pos (by rw [sb_length]; have := HRZ.out; omega)] at hR
          subst hR
          go_upto_region 23 with (fail)
          go_wp2_with (refine wpList_store_row rfl 42 (.tmp 4) (.tmp 117) rfl w.heap.size Fr.zero.cs rfl rfl 42 Fr.zero.cs HB4c.out fr_info rfl (fr_one _) ?_; rw [setRow_same HB4c.out])
          refine bodyPost_ret (v := .tuple #[.agg Fr.zero.cs, .int .i64 0, .int .i64 90]) (r9get_results _ _ _ _ _ _ rfl rfl rfl HB4c.out) rfl ⟨rfl, HT3.out⟩
        have hR := HRe.out
        rw [if_neg (by rw [sb_length]; have := HRZ.out; omega)] at hR
        have HR2 := Lib.hid hR
        have hgr : gN ≤ r.size := by omega
        have hseg : sb (r.extract 0 gN) = ((sb s).drop (1 + gk)).take gN := by rw [sb_extract, List.drop_zero, HRS.out]
        have HSEG := Lib.hid hseg
        have HAP : Hid (∀ W : World, Calls Tryz.prog 35 #[.agg #[.int .u8 0, .int .u8 0, .int .u8 0, .int .u8 0], .int .i64 0, .string (r.extract 0 gN)] W fun e w' =>
            e = .returned (.string (Go.strOfNums (turn [0, 0, 0, 0] 0 (sb (r.extract 0 gN))))) ∧ Touch NoS W w') := fun W => r8_apply 0 0 0 0 (by intro x hx; simp at hx; omega) (r.extract 0 gN) (by simp; omega) W
        obtain ⟨D, hD⟩ : ∃ D, D = Go.strOfNums (turn [0, 0, 0, 0] 0 (sb (r.extract 0 gN))) := ⟨_, rfl⟩
        rw [← hD] at HAP
        have HDD := Lib.hid hD
        clear hR hsd hseg hD
        go_wp2_with fail
        go_region_with ((go_at_call 35; refine (HAP.out _).mono ?_; rintro e w5 ⟨rfl, ht⟩; have q3 := ht.cell (w := w1.drew) b3; have q4 := ht.cell (w := w1.drew) b4; have q5 := ht.cell (w := w1.drew) b5; have q6 := ht.cell (w := w1.drew) b6; have q7 := ht.cell (w := w1.drew) b7; have hb75 := (HB7c.out.drew.touch ht (fun h => h)); have f7 := hb75.frozen 7; have l7 := hb75.lt; have HB75 := Lib.hid hb75; clear hb75))
        obtain ⟨w6, hw6⟩ : ∃ w6, w6 = w5.setCell ⟨w.heap.size + 1, 7, none⟩ (.string D) := ⟨_, rfl⟩
        rw [← hw6]
        have HB76 : Hid (Blk w6 (w.heap.size + 1) 42 (Fr.cs ⟨true, o, false, 0, 0, 0, 0, D⟩)) := by rw [hw6]; exact HB75.out.set_ 7 _
        have HB46 : Hid (Blk w6 w.heap.size 42 Fr.zero.cs) := by rw [hw6]; exact (HB4c.out.drew.touch ht (fun h => h)).far (by simp) _
        have HT6 : Hid (Touch NoS w w6) := by rw [hw6]; exact (HT3.out.drew.trans ht).setNew (by simp) _
        clear hw6 HB75 HB4c HB7c HT3 ht q3 q4 q5 q6 q7 f7 l7 b2 b3 b4 b5 b6 b7 HAP
        have g1 : (0 : Int) ≤ (s.size : Int) - r.size := by omega
        have g2 : IntKind.i64.wrap ((s.size : Int) - r.size) = (s.size : Int) - r.size := IntWalk.i64_in _ (by omega)
        have g3 : IntKind.i64.wrap ((s.size : Int) - r.size + gN) = (s.size : Int) - r.size + gN := IntWalk.i64_in _ (by omega)
        go_wp2_with (first
          | (refine wpList_load_row rfl 42 (.tmp 7) rfl (w.heap.size + 1) rfl 42 _ (0, 0) _ HB76.out Tryz.underlying42 rfl fr_info ?_)
          | (refine wpList_store_row rfl 42 (.tmp 4) (.tmp 125) rfl w.heap.size (Fr.cs ⟨true, o, false, 0, 0, 0, 0, D⟩) rfl rfl 42 Fr.zero.cs HB46.out fr_info rfl (fr_one _) ?_))
        have hR := HR2.out
        rw [Int.toNat_natCast, ← HSEG.out, ← HDD.out] at hR
        subst hR
        have e : ((1 + gk + gN : Nat) : Int) = (s.size : Int) - r.size + gN := by have := HRZ.out; omega
        refine bodyPost_ret (v := .tuple #[.agg (Fr.cs ⟨true, o, false, 0, 0, 0, 0, D⟩), .int .i64 ((s.size : Int) - r.size + gN), .int .i64 0]) (r9get_results _ _ _ _ _ _ rfl rfl rfl HB46.out.row) rfl ⟨by rw [← e]; rfl, HT6.out.row (Nat.le_refl _) _⟩
end Go.Proofs.YtlnabpoohnphiaaGreat
/- law09: awake. -/
namespace Go.Proofs.YtlnabpoohnphiaaGreat
open Go.RowKit
set_option linter.unusedSimpArgs false
set_option linter.unusedVariables false

theorem aw_put : fput ⟨true, 1, false, 0, 0, 0, 0, ⟨#[72, 101, 108, 108, 111]⟩⟩ = [129, 5, 72, 101, 108, 108, 111] := by kernel_rfl
theorem aw_get : fget [137, 0, 1] 100 = (⟨true, 9, false, 0, 0, 0, 0, ⟨#[]⟩⟩, 2, 0) := by kernel_rfl

end Go.Proofs.YtlnabpoohnphiaaGreat
