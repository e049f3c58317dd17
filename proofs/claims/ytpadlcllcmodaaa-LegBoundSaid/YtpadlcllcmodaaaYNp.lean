/- law16: acts; LegBound: the walk. -/
import Derived.Test.YtpadlcllcmodaaaY44
import Derived.Test.YtpadlcllcmodaaaY43
import Derived.Test.YtpadlcllcmodaaaY05
namespace Go.Proofs.Ytpadlcllcmodaaa
open Go.RowKit
set_option linter.unusedSimpArgs false
set_option linter.unusedVariables false

theorem act_cells {w : World} {A : Option Addr} {l : List Act1} (h : Rd w A (l.flatMap Act1.cl)) (k : Nat) (hk : k < l.length) : ∃ g off, A = some ⟨g, off, none⟩ ∧ g < w.heap.size ∧
    w.cell? ⟨g, off + k * 5, none⟩ = some (.int .i64 l[k].kind) ∧ w.cell? ⟨g, off + k * 5 + 1, none⟩ = some (.int .i64 l[k].op) ∧ w.cell? ⟨g, off + k * 5 + 2, none⟩ = some (.int .i64 l[k].code) ∧ w.cell? ⟨g, off + k * 5 + 3, none⟩ = some (.int .i64 l[k].n) ∧ w.cell? ⟨g, off + k * 5 + 4, none⟩ = some (.string l[k].s) := by
  have hf := flat_at Act1.cl 5 (fun _ => rfl) l k hk
  obtain ⟨g, off, hA, hg, hc⟩ := h (by intro he; have := hf 0 (by omega); rw [he] at this; simp [Act1.cl] at this)
  have hc' : ∀ j (hj : j < 5) u, (Act1.cl l[k])[j]? = some u → w.cell? ⟨g, off + k * 5 + j, none⟩ = some u := fun j hj u hu => by
    rw [Nat.add_assoc]; exact hc _ u ((hf j hj).trans hu)
  exact ⟨g, off, hA, hg, hc' 0 (by omega) _ rfl, hc' 1 (by omega) _ rfl, hc' 2 (by omega) _ rfl, hc' 3 (by omega) _ rfl, hc' 4 (by omega) _ rfl⟩
set_option maxHeartbeats 3200000 in
set_option maxRecDepth 100000 in
theorem l_few (x : Act1) (hx : x.s.size ≤ maxLen) (w : World) : Calls Try.prog 17 #[.agg #[.int .i64 x.kind, .int .i64 x.op, .int .i64 x.code, .int .i64 x.n, .string x.s]] w fun e w' => e = .returned (.bool (decide (x.s.size ≤ 300))) ∧ Touch NoS w w' := by
  unfold maxLen at hx
  obtain ⟨kind, op, code, n, s⟩ := x
  by_cases h : s.size ≤ 300
  · have h2 : (s.size : Int) ≤ 300 := by omega
    go_enter Try.func17, Try.ntmps17
    go_wp2_with fail
    go_ret
    exact ⟨by simp [h], (Touch.refl _ _).alloc _⟩
  · have h2 : ¬ ((s.size : Int) ≤ 300) := by omega
    go_enter Try.func17, Try.ntmps17
    go_wp2_with fail
    go_ret
    exact ⟨by simp [h], (Touch.refl _ _).alloc _⟩
theorem u8_nat {x : Int} (h : 0 ≤ x ∧ x ≤ 255) : ∃ m : Nat, x = m ∧ m ≤ 255 := ⟨x.toNat, by omega, by omega⟩

set_option maxHeartbeats 12800000 in
set_option maxRecDepth 100000 in
theorem bound16_row (w : World) (xa xb xc : Int) (gx : bytesIn [xa, xb, xc]) (mk : Bool) (draw : Int) (gd : (Lit.int .u32 draw).wf = true) (A : Option Addr) (ls : List Act1) (c : Nat) (hr : Rd w A (ls.flatMap Act1.cl)) (hg : ∀ x ∈ ls, x.good) (hlc : ls.length ≤ c) (hcc : c ≤ maxLen) :
    Calls Try.prog 4 #[.agg #[.int .u8 xa, .int .u8 xb, .int .u8 xc], .bool mk, .int .u32 draw, .slice A ls.length c] w fun e w' => e = .returned (.bool true) ∧ Touch NoS w w' := by
  obtain ⟨ma, rfl, hma⟩ := u8_nat (gx xa (by simp))
  obtain ⟨mb, rfl, hmb⟩ := u8_nat (gx xb (by simp))
  obtain ⟨mc, rfl, hmc⟩ := u8_nat (gx xc (by simp))
  have HR := Lib.hid hr
  have HG := Lib.hid hg
  obtain ⟨n, hn⟩ : ∃ n, n = ls.length := ⟨_, rfl⟩
  rw [← hn] at hlc ⊢
  have HN := Lib.hid hn.symm
  have hnm : n ≤ maxLen := by omega
  unfold maxLen at hnm
  clear hr hg hn hcc gx
  go_enter Try.func4, Try.ntmps4
  go_wp2_with fail
  refine (l_cfg ma mb mc hma hmb hmc _).mono ?_
  rintro e w1 ⟨b, rfl, hb, hbr, ht⟩
  have HT1 := Lib.hid (((Touch.refl NoS w).alloc (.cells #[.int .u8 ma, .int .u8 mb, .int .u8 mc] 40)).trans ht)
  have hsz1 := HT1.out.size
  have HBR := Lib.hid hbr
  clear ht hbr
  unfold cfgV
  obtain ⟨M, hM⟩ : ∃ M, M = 1 + ma := ⟨_, rfl⟩
  obtain ⟨F, hF⟩ : ∃ F, F = 1 + mb := ⟨_, rfl⟩
  obtain ⟨O, hO⟩ : ∃ O, O = 1 + mc := ⟨_, rfl⟩
  rw [← hM, ← hF, ← hO]
  have hM1 : 1 ≤ M ∧ M ≤ 256 := by omega
  have hF1 : 1 ≤ F ∧ F ≤ 256 := by omega
  have hO1 : 1 ≤ O ∧ O ≤ 256 := by omega
  clear hM hF hO hma hmb hmc
  go_wp2_with fail
  obtain ⟨w2, hw2⟩ : ∃ w2, w2 = w1.alloc (.cells (cfgV b M F O) 25) := ⟨_, rfl⟩
  obtain ⟨gc, hgc⟩ : ∃ g, g = w1.heap.size := ⟨_, rfl⟩
  have hbc : Blk w2 gc 25 (cfgV b M F O) := by rw [hw2, hgc]; exact Blk.new _ _ _
  have HT2 : Hid (Touch NoS w w2) := by rw [hw2]; exact HT1.out.alloc _
  have HBR2 : Hid (Blk w2 b 63 #[.string ⟨#[47]⟩, .string ⟨#[]⟩, .string ⟨#[120]⟩]) := by rw [hw2]; exact HBR.out.alloc _
  have HBC := Lib.hid hbc
  have HNEW := Lib.hid (lg_new b M F O hM1.1 (by omega) hF1.1 (by omega) hO1.1 (by omega) mk draw w2 HBR2.out)
  unfold cfgV at hw2 HNEW
  rw [← hw2, ← hgc]
  clear hw2 hgc hbc HBR HBR2 HT1 hsz1 hb
  refine HNEW.out.mono ?_
  rintro e w3 ⟨g, k, rfl, hk1, hk2, hk3, hk4, hL⟩
  have HK1 := Lib.hid hk1
  have HK2 := Lib.hid hk2
  have HK3 := Lib.hid hk3
  have HL3 := Lib.hid hL
  clear hL hk1 hk2 hk3 hk4 HNEW
  go_wp2_with fail
  refine (aw16 _).mono ?_
  rintro e w4 ⟨rfl, ht⟩
  have HL4 := Lib.hid (HL3.out.no ht)
  clear ht HL3
  go_wp2_with fail
  go_loopw [12] (fun iv wr => ∃ (i : Nat) (L : Lg), i ≤ n ∧ i ≤ 40 ∧ iv = .int .i64 i ∧ LgAt w2 wr g k L ∧ L.okb k (700 * i)) (fun iv _ => n - (intOf iv).toNat)
  case atStart =>
    exact ⟨0, Lg.new M draw, Nat.zero_le _, by omega, rfl, HL4.out, by rw [← HK1.out]; exact Lg.new_okb k draw _⟩
  case round =>
    obtain ⟨i, L, hin, hi40, rfl, hL, hok⟩ := hrel
    have HL := Lib.hid hL
    have HOK := Lib.hid hok
    clear hL hok
    by_cases hlt : i < n
    · by_cases hlt2 : i < 40
      · have hil : i < ls.length := by rw [HN.out]; exact hlt
        obtain ⟨ga, oa, rfl, hga, a0, a1, a2, a3, a4⟩ := act_cells (HR.out.touch_no (HT2.out.trans HL.out.old)) i hil
        have hgd := HG.out ls[i] (List.getElem_mem hil)
        obtain ⟨x, hx⟩ : ∃ x, x = ls[i] := ⟨_, rfl⟩
        rw [← hx] at a0 a1 a2 a3 a4 hgd
        have HFEW := Lib.hid (fun W => l_few x hgd W)
        obtain ⟨kind, op, code, na, sa⟩ := x
        simp only at a0 a1 a2 a3 a4 HFEW
        have HGD : Hid (sa.size ≤ maxLen) := hgd
        clear hx hgd
        go_wp2_with fail
        refine (HFEW.out _).mono ?_
        rintro e w5 ⟨rfl, ht5⟩
        have hb5 := (Blk.new _ 43 #[.int .i64 kind, .int .i64 op, .int .i64 code, .int .i64 na, .string sa]).touch ht5 (fun h => h)
        have HL5 := Lib.hid ((HL.out.no ((Touch.refl _ _).alloc (.cells #[.int .i64 kind, .int .i64 op, .int .i64 code, .int .i64 na, .string sa] 43))).no ht5)
        have b0 := hb5.cell 0
        have b1 := hb5.cell 1
        have b2 := hb5.cell 2
        have b3 := hb5.cell 3
        have b4 := hb5.cell 4
        have bl := hb5.lt
        simp at b0 b1 b2 b3 b4
        obtain ⟨gx, hgx⟩ : ∃ g, g = wr.heap.size := ⟨_, rfl⟩
        rw [← hgx] at b0 b1 b2 b3 b4 bl ⊢
        clear ht5 hb5 HL HFEW a0 a1 a2 a3 a4 hga hgx
        by_cases hfew : sa.size ≤ 300
        · rw [decide_eq_true hfew]
          have hcl := HOK.out.ctl
          have hpl := HOK.out.part
          have HPL : Hid ((L.part.length : Int) ≤ 269) := by
            show (L.part.length : Int) ≤ 269
            unfold most16 at hpl
            rw [HK1.out] at hpl
            omega
          have HCL := Lib.hid hcl
          clear hcl hpl
          go_upto_block 2 with (fail)
          go_cut [] (fun wx => ∃ L', LgAt w2 wx g k L' ∧ L'.okb k (700 * (i + 1)))
          case first =>
            by_cases h0 : kind = 0
            · subst h0
              obtain ⟨w6, cp, hconv, ht6, hrd6, -, -, -⟩ := conv_ex w5 sa HGD.out
              have HL6 := Lib.hid (HL5.out.no ht6)
              have HRD6 := Lib.hid hrd6
              clear ht6 hrd6
              go_wp2_with fail
              refine (lg_feed HL6.out (by rw [HK1.out]; omega) HOK.out.ok (sb sa) _ _ _ (sb_length sa) HRD6.out (sb_in sa) (by have := HPL.out; have := HCL.out; omega)).mono ?_
              rintro e w7 ⟨A7, c7, rfl, -, hL7, -⟩
              have HFIN : Hid (∃ L', LgAt w2 w7 g k L' ∧ L'.okb k (700 * (i + 1))) :=
                ⟨_, hL7, (Lg.feed_okb k _ L HOK.out (sb sa) (sb_in sa) (by rw [sb_length]; have := HPL.out; omega)).mono (by rw [sb_length]; have := HPL.out; omega)⟩
              clear hL7
              go_wp2_with fail
              go_meet
              exact HFIN.out
            by_cases h1 : kind = 1
            · subst h1
              go_wp2_with fail
              refine (lg_send HL5.out op 0 sa HGD.out (by rw [HK1.out]; omega) (by rw [HK2.out]; omega) (by rw [HK2.out]; omega)).mono ?_
              rintro e w7 ⟨rfl, hL7, -⟩
              have HFIN : Hid (∃ L', LgAt w2 w7 g k L' ∧ L'.okb k (700 * (i + 1))) :=
                ⟨_, hL7, (Lg.send_like k L op sa).okb HOK.out (by have := Lg.send_ctl k L op sa; have := HCL.out; omega)⟩
              clear hL7
              go_wp2_with fail
              go_meet
              exact HFIN.out
            by_cases h2 : kind = 2
            · subst h2
              go_wp2_with fail
              refine (lg_ping HL5.out sa HGD.out (by have := HCL.out; omega)).mono ?_
              rintro e w7 ⟨rfl, hL7, -⟩
              have HFIN : Hid (∃ L', LgAt w2 w7 g k L' ∧ L'.okb k (700 * (i + 1))) :=
                ⟨_, hL7, (Lg.ping_like k L sa).okb HOK.out (by have := Lg.ping_ctl k L sa; have := HCL.out; omega)⟩
              clear hL7
              go_wp2_with fail
              go_meet
              exact HFIN.out
            by_cases h3 : kind = 3
            · subst h3
              go_wp2_with fail
              refine (lg_close HL5.out code sa HGD.out (by have := HCL.out; omega)).mono ?_
              rintro e w7 ⟨rfl, hL7, -⟩
              have HFIN : Hid (∃ L', LgAt w2 w7 g k L' ∧ L'.okb k (700 * (i + 1))) :=
                ⟨_, hL7, (Lg.close_like k L code sa).okb HOK.out (by have := Lg.close_ctl k L code sa; have := HCL.out; omega)⟩
              clear hL7
              go_wp2_with fail
              go_meet
              exact HFIN.out
            by_cases h4 : kind = 4
            · subst h4
              go_wp2_with fail
              refine (lg_take HL5.out na).mono ?_
              rintro e w7 ⟨g7, rfl, -, -, hL7, -⟩
              have HFIN : Hid (∃ L', LgAt w2 w7 g k L' ∧ L'.okb k (700 * (i + 1))) :=
                ⟨_, hL7, (Lg.take_like k L na).okb HOK.out (by have := Lg.take_ctl k L na; have := HCL.out; omega)⟩
              clear hL7
              go_wp2_with fail
              go_meet
              exact HFIN.out
            · have HFIN : Hid (∃ L', LgAt w2 w5 g k L' ∧ L'.okb k (700 * (i + 1))) := ⟨L, HL5.out, HOK.out.mono (by omega)⟩
              go_wp2_with fail
              go_meet
              exact HFIN.out
          case rest =>
            obtain ⟨L2, hL2, hok2⟩ := hcut
            obtain ⟨wd, rfl⟩ : ∃ we : World, we = wc := ⟨_, rfl⟩
            have HL2 := Lib.hid hL2
            have HOK2 := Lib.hid hok2
            clear hL2 hok2 b0 b1 b2 b3 b4 bl HL5 HOK
            obtain ⟨R, hR⟩ : ∃ R, R = L2.o.ring.length := ⟨_, rfl⟩
            obtain ⟨P, hP⟩ : ∃ P, P = L2.part.length := ⟨_, rfl⟩
            obtain ⟨Q, hQ⟩ : ∃ Q, Q = L2.m.part.size := ⟨_, rfl⟩
            have hRO : R ≤ O := by rw [hR, ← HK3.out]; exact HL2.out.ring
            have hPB : (P : Int) ≤ ((max M 125 : Nat) : Int) + 13 := by
              have := HOK2.out.part
              unfold most16 at this
              rw [HK1.out] at this
              omega
            have hQB : Q ≤ M := by
              obtain ⟨V, iv, -, -⟩ := HL2.out
              have h1 := iv.good.size
              have h2 := HOK2.out.most
              have h3 := HK1.out
              omega
            have hpk : pk 70000 R = R := by unfold pk; omega
            have HPK : Hid (∀ W, Touch NoS wd W → Calls Try.prog 22 #[.pointer (some ⟨g, 0, none⟩), .int .i64 70000] W fun e w' => ∃ g2, e = .returned (.slice (some ⟨g2, 0, none⟩) R R) ∧ Touch NoS W w') := fun W t => by
              refine (lg_peek (HL2.out.no t) 70000).mono ?_
              rintro e w' ⟨g2, rfl, -, -, h⟩
              rw [← hR, hpk]
              exact ⟨g2, rfl, h⟩
            have HKE : Hid (∀ W, Touch NoS wd W → Calls Try.prog 23 #[.pointer (some ⟨g, 0, none⟩)] W fun e w' => e = .returned (.int .i64 (P + Q)) ∧ Touch NoS W w') := fun W t => lg_kept (HL2.out.no t) P Q hP.symm hQ.symm (by omega) (by omega)
            have hbc2 := HBC.out.touch HL2.out.old (fun h => h)
            have c3 := hbc2.cell 3
            have c7 := hbc2.cell 7
            have cl := hbc2.lt
            simp [cfgV] at c3 c7
            obtain ⟨X, hX⟩ : ∃ X : Nat, X = max M 125 := ⟨_, rfl⟩
            have hmx : max (M : Int) 125 = (X : Int) := by omega
            rw [← hX] at hPB
            have hXb : X ≤ 256 := by omega
            have w1 : IntKind.i64.wrap ((M : Int) + X) = (M : Int) + X := IntWalk.i64_in _ (by omega)
            have w2' : IntKind.i64.wrap ((M : Int) + X + 14) = (M : Int) + X + 14 := IntWalk.i64_in _ (by omega)
            have hro : decide ((O : Int) < (R : Int)) = false := decide_eq_false (by omega)
            have hro2 : decide (O < R) = false := decide_eq_false (by omega)
            have hpq : decide ((M : Int) + X + 14 < (P : Int) + Q) = false := decide_eq_false (by omega)
            have HBC2 := Lib.hid hbc2
            clear hbc2 hR hP hQ hX hpk
            go_wp2_with fail
            have k3 : wd.drew.cell? ⟨gc, 3, none⟩ = some (.int .i64 M) := c3
            have k7 : wd.drew.cell? ⟨gc, 7, none⟩ = some (.int .i64 O) := c7
            have kt : Touch NoS wd wd.drew := (Touch.refl NoS wd).drew
            go_region_held3 (fun w' => w'.cell? ⟨gc, 3, none⟩ = some (.int .i64 M) ∧ w'.cell? ⟨gc, 7, none⟩ = some (.int .i64 O) ∧ Touch NoS wd w')
              (first | exact ⟨z3, z7, HT7.out⟩ | exact ⟨y3, y7, HT6.out⟩ | exact ⟨k3, k7, kt⟩)
              (first
                | (go_at_call 22; refine (HPK.out _ kt).mono ?_; rintro e w6 ⟨g2, rfl, ht6⟩; have hbc6 := HBC2.out.drew.touch ht6 (fun h => h); have y3 := hbc6.cell 3; have y7 := hbc6.cell 7; have yl := hbc6.lt; simp [cfgV] at y3 y7; have HT6 : Hid (Touch NoS wd w6) := kt.trans ht6; have HBC6 := Lib.hid hbc6; clear ht6 hbc6)
                | (go_at_call 23; refine (HKE.out _ HT6.out).mono ?_; rintro e w7 ⟨rfl, ht7⟩; have hbc7 := HBC6.out.touch ht7 (fun h => h); have z3 := hbc7.cell 3; have z7 := hbc7.cell 7; have zl := hbc7.lt; simp [cfgV] at z3 z7; have HT7 := Lib.hid (HT6.out.trans ht7); clear ht7 hbc7))
            all_goals
              have HL8 := Lib.hid (HL2.out.no HT7.out)
              go_wp2_with fail
              go_roundw
              · exact ⟨i + 1, L2, by omega, by omega, by go_num, HL8.out, HOK2.out⟩
              · simp [intOf]; omega
        · rw [decide_eq_false hfew]
          have HOK2 := Lib.hid (HOK.out.mono (show 700 * i ≤ 700 * (i + 1) by omega))
          clear b0 b1 b2 b3 b4 bl HOK
          go_wp2_with fail
          go_roundw
          · exact ⟨i + 1, L, by omega, by omega, by go_num, HL5.out, HOK2.out⟩
          · simp [intOf]; omega
      · have hi : i = 40 := by omega
        have hge : ¬ ((i : Int) < 40) := by omega
        have HTF := Lib.hid (HT2.out.trans HL.out.old)
        go_wp2_with fail
        go_ret
        exact ⟨rfl, HTF.out⟩
    · have HTF := Lib.hid (HT2.out.trans HL.out.old)
      have hge : ¬ ((i : Int) < n) := by omega
      go_wp2_with fail
      go_ret
      exact ⟨rfl, HTF.out⟩
end Go.Proofs.Ytpadlcllcmodaaa
