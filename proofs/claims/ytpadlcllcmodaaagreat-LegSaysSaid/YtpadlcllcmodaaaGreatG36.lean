/- law16: acts; LegBound: the walk. | law16: LegEnds: the walk. -/
import Derived.Test.YtpadlcllcmodaaaGreatG24
import Derived.Test.YtpadlcllcmodaaaGreatG30
import Derived.Test.YtpadlcllcmodaaaGreatG03
import Derived.Test.YtpadlcllcmodaaaGreatG35
/- law16: acts; LegBound: the walk. -/
namespace Go.Proofs.YtpadlcllcmodaaaGreat
open Go.RowKit
set_option linter.unusedSimpArgs false
set_option linter.unusedVariables false

theorem act_cells {w : World} {A : Option Addr} {l : List Act1} (h : Rd w A (l.flatMap Act1.cl)) (k : Nat) (hk : k < l.length) : ∃ g off, A = some ⟨g, off, none⟩ ∧ g < w.heap.size ∧
    w.cell? ⟨g, off + k * 5, none⟩ = some (.int .i64 l[k].kind) ∧ w.cell? ⟨g, off + k * 5 + 1, none⟩ = some (.int .i64 l[k].op) ∧ w.cell? ⟨g, off + k * 5 + 2, none⟩ = some (.int .i64 l[k].code) ∧ w.cell? ⟨g, off + k * 5 + 3, none⟩ = some (.int .i64 l[k].n) ∧ w.cell? ⟨g, off + k * 5 + 4, none⟩ = some (.string l[k].s) := by
  have hf := flat_at Act1.cl 5 (fun _ => rfl) l k hk
  obtain ⟨g, off, hA, hg, hc⟩ := h (by intro he; have := hf 0 (by omega); rw [he] at this; simp [Act1.cl] at this)
  have hc' : ∀ j (hj : j < 5) u, (Act1.cl l[k])[j]? = some u → w.cell? ⟨g, off + k * 5 + j, none⟩ = some u := fun j hj u hu => by
    rw [Nat.add_assoc]; exact hc _ u ((hf j hj).trans hu)
  exact ⟨g, off, hA, hg, hc' 0 (by omega) _ rfl, hc' 1 (by omega) _ rfl, hc' 2 (by omega) _ rfl, hc' 3 (by omega) _ rfl, hc' 4 (by omega) _ rfl⟩
set_option maxHeartbeats 3200000 in
set_option maxRecDepth 100000 in
theorem l_few (x : Act1) (hx : x.s.size ≤ maxLen) (w : World) : Calls Tryz.prog 11 #[.agg #[.int .i64 x.kind, .int .i64 x.op, .int .i64 x.code, .int .i64 x.n, .string x.s]] w fun e w' => e = .returned (.bool (decide (x.s.size ≤ 300))) ∧ Touch NoS w w' := by
  unfold maxLen at hx
  obtain ⟨kind, op, code, n, s⟩ := x
  by_cases h : s.size ≤ 300
  · have h2 : (s.size : Int) ≤ 300 := by omega
    go_enter Tryz.func11, Tryz.ntmps11
    go_wp2_with fail
    go_ret
    exact ⟨by simp [h], (Touch.refl _ _).alloc _⟩
  · have h2 : ¬ ((s.size : Int) ≤ 300) := by omega
    go_enter Tryz.func11, Tryz.ntmps11
    go_wp2_with fail
    go_ret
    exact ⟨by simp [h], (Touch.refl _ _).alloc _⟩
theorem u8_nat {x : Int} (h : 0 ≤ x ∧ x ≤ 255) : ∃ m : Nat, x = m ∧ m ≤ 255 := ⟨x.toNat, by omega, by omega⟩

end Go.Proofs.YtpadlcllcmodaaaGreat
/- law16: LegEnds: the walk. -/
namespace Go.Proofs.YtpadlcllcmodaaaGreat
open Go.RowKit
set_option linter.unusedSimpArgs false
set_option linter.unusedVariables false

theorem all_frames {s : ByteArray} (hz : s.size ≤ 1000000) (mk : Bool) {fs : List Fr} (h : scan mk 65536 (sb s) = (fs, [], 0)) (n : Nat) (hn : fs.length = n) (w : World) :
    Calls Tryz.prog 21 #[.string s, .bool mk, .int .i64 65536] w fun e w' => ∃ A c, e = .returned (.tuple #[.slice A n c, .int .i64 0, .int .i64 0]) ∧ Rd w' A (frs fs) ∧ n ≤ c ∧ c ≤ maxLen ∧ Touch NoS w w' := by
  refine (r10_all s hz mk 65536 (by decide) w).mono ?_
  rintro e w' ⟨v, rfl, ho, ht⟩
  rw [h] at ho ⊢
  simp only [List.length_nil] at ho ⊢
  obtain ⟨A, c, rfl, h1, h2, h3, h4, h5⟩ := own_cases ho
  subst hn
  exact ⟨A, c, rfl, h3, h1, h2, ht⟩

set_option maxHeartbeats 12800000 in
set_option maxRecDepth 100000 in
theorem ends16_row (w : World) (xa xb xc : Int) (gx : bytesIn [xa, xb, xc]) (mk : Bool) (draw : Int) (gd : (Lit.int .u32 draw).wf = true) (A : Option Addr) (ls : List Act1) (c : Nat) (hr : Rd w A (ls.flatMap Act1.cl)) (hg : ∀ x ∈ ls, x.good) (hlc : ls.length ≤ c) (hcc : c ≤ maxLen) :
    Calls Tryz.prog 5 #[.agg #[.int .u8 xa, .int .u8 xb, .int .u8 xc], .bool mk, .int .u32 draw, .slice A ls.length c] w fun e w' => e = .returned (.bool true) ∧ Touch NoS w w' := by
  obtain ⟨ma, rfl, hma⟩ := u8_nat (gx xa (by simp))
  obtain ⟨mb, rfl, hmb⟩ := u8_nat (gx xb (by simp))
  obtain ⟨mc, rfl, hmc⟩ := u8_nat (gx xc (by simp))
  have HR := Lib.hid hr
  have HG := Lib.hid hg
  obtain ⟨n, hn⟩ : ∃ n, n = ls.length := ⟨_, rfl⟩
  rw [← hn] at hlc ⊢
  have HN := Lib.hid hn.symm
  have hnm : n ≤ maxLen := by omega
  unfold maxLen at hnm
  clear hr hg hn hcc gx
  go_enter Tryz.func5, Tryz.ntmps5
  go_wp2_with fail
  refine (l_cfg ma mb mc hma hmb hmc _).mono ?_
  rintro e w2 ⟨b, rfl, hb, hbr, ht⟩
  have HT2 := Lib.hid (((Touch.refl NoS w).alloc (.cells #[.int .u8 ma, .int .u8 mb, .int .u8 mc] 45)).trans ht)
  have HBR := Lib.hid hbr
  clear ht hbr
  unfold cfgV
  obtain ⟨M, hM⟩ : ∃ M, M = 1 + ma := ⟨_, rfl⟩
  obtain ⟨F, hF⟩ : ∃ F, F = 1 + mb := ⟨_, rfl⟩
  obtain ⟨O, hO⟩ : ∃ O, O = 1 + mc := ⟨_, rfl⟩
  rw [← hM, ← hF, ← hO]
  have hM1 : 1 ≤ M ∧ M ≤ 256 := by omega
  have hF1 : 1 ≤ F ∧ F ≤ 256 := by omega
  have hO1 : 1 ≤ O ∧ O ≤ 256 := by omega
  clear hM hF hO hma hmb hmc
  go_wp2_with fail
  have HNEW := Lib.hid (lg_new b M F O hM1.1 (by omega) hF1.1 (by omega) hO1.1 (by omega) mk draw w2 HBR.out)
  unfold cfgV at HNEW
  clear HBR hb
  refine HNEW.out.mono ?_
  rintro e w3 ⟨g, k, rfl, hk1, hk2, hk3, hk4, hL⟩
  have HK1 := Lib.hid hk1
  have HK2 := Lib.hid hk2
  have HK3 := Lib.hid hk3
  have HK4 := Lib.hid hk4
  have HL3 := Lib.hid hL
  clear hL hk1 hk2 hk3 hk4 HNEW
  go_wp2_with fail
  refine (aw16 _).mono ?_
  rintro e w4 ⟨rfl, ht⟩
  have HL4 := Lib.hid (HL3.out.no ht)
  clear ht HL3
  go_wp2_with fail
  go_loopw [11, 12] (fun sv iv wr => ∃ (i : Nat) (L : Lg) (s : ByteArray), i ≤ n ∧ i ≤ 30 ∧ iv = .int .i64 i ∧ sv = .string s ∧ s.size ≤ 256 * i ∧ LgAt w2 wr g k L ∧ Hid (L.okb k (700 * i)) ∧ Hid (∃ all low, EndsI k draw (sb s) all low i L)) (fun _ iv _ => n - (intOf iv).toNat)
  case atStart =>
    exact ⟨0, Lg.new M draw, ⟨#[]⟩, Nat.zero_le _, by omega, rfl, rfl, Nat.zero_le _, HL4.out, by rw [← HK1.out]; exact Lg.new_okb k draw _, _, _, EndsI.new k M hM1.1 (by omega) draw⟩
  case round =>
    obtain ⟨i, L, s, hin, hi30, rfl, rfl, hsz, hL, hok, hei⟩ := hrel
    have HL := Lib.hid hL
    have HOK : Hid (L.okb k (700 * i)) := hok
    have HEI : Hid (∃ all low, EndsI k draw (sb s) all low i L) := hei
    clear hL hok hei HL4
    have hss : s.size ≤ 7680 := by omega
    obtain ⟨bq, hbq⟩ : ∃ bq, bq = (decide (i < n) && decide (i < 30)) := ⟨_, rfl⟩
    obtain ⟨wq, hwq⟩ : ∃ wq : World, wq = wr := ⟨_, rfl⟩
    subst hwq
    go_upto_region 6 with (fail)
    go_cut [49] (fun v wx => v = .bool bq ∧ wx = wq)
    case first =>
      by_cases hlt : i < n
      · by_cases hlt2 : i < 30
        · rw [decide_eq_true hlt, decide_eq_true hlt2] at hbq
          go_wp2_with fail
          go_meet
          exact ⟨by rw [hbq]; first | rfl | (simp; omega), rfl⟩
        · rw [decide_eq_true hlt, decide_eq_false hlt2] at hbq
          have hge : ¬ ((i : Int) < 30) := by omega
          go_wp2_with fail
          go_meet
          exact ⟨by rw [hbq]; first | rfl | (simp; omega), rfl⟩
      · rw [decide_eq_false hlt] at hbq
        have hge : ¬ ((i : Int) < n) := by omega
        go_wp2_with fail
        go_meet
        exact ⟨by rw [hbq]; first | rfl | (simp; omega), rfl⟩
    case rest =>
    obtain ⟨rfl, hwx⟩ := hcut
    obtain ⟨wr, rfl⟩ : ∃ w : World, w = wc := ⟨_, rfl⟩
    subst hwx
    cases bq with
    | true =>
      rw [eq_comm, Bool.and_eq_true, decide_eq_true_eq, decide_eq_true_eq] at hbq
      obtain ⟨hlt, hlt2⟩ := hbq
      have hil : i < ls.length := by rw [HN.out]; exact hlt
      obtain ⟨ga, oa, rfl, hga, a0, a1, a2, a3, a4⟩ := act_cells (HR.out.touch_no (HT2.out.trans HL.out.old)) i hil
      have hgd := HG.out ls[i] (List.getElem_mem hil)
      obtain ⟨x, hx⟩ : ∃ x, x = ls[i] := ⟨_, rfl⟩
      rw [← hx] at a0 a1 a2 a3 a4 hgd
      have HFEW := Lib.hid (fun W => l_few x hgd W)
      obtain ⟨kind, op, code, na, sa⟩ := x
      simp only at a0 a1 a2 a3 a4 HFEW
      have HGD : Hid (sa.size ≤ maxLen) := hgd
      clear hx hgd
      go_wp2_with fail
      refine (HFEW.out _).mono ?_
      rintro e w5 ⟨rfl, ht5⟩
      have hb5 := (Blk.new _ 40 #[.int .i64 kind, .int .i64 op, .int .i64 code, .int .i64 na, .string sa]).touch ht5 (fun h => h)
      have HL5 := Lib.hid ((HL.out.no ((Touch.refl _ _).alloc (.cells #[.int .i64 kind, .int .i64 op, .int .i64 code, .int .i64 na, .string sa] 40))).no ht5)
      have b0 := hb5.cell 0
      have b1 := hb5.cell 1
      have b2 := hb5.cell 2
      have b3 := hb5.cell 3
      have b4 := hb5.cell 4
      have bl := hb5.lt
      simp at b0 b1 b2 b3 b4
      obtain ⟨gx, hgx⟩ : ∃ g, g = wr.heap.size := ⟨_, rfl⟩
      rw [← hgx] at b0 b1 b2 b3 b4 bl ⊢
      clear ht5 hb5 HL HFEW a0 a1 a2 a3 a4 hga hgx
      by_cases hskip : sa.size ≤ 300 ∧ kind ≠ 3
      · obtain ⟨hfew, hk3⟩ := hskip
        rw [decide_eq_true hfew]
        have hcl := HOK.out.ctl
        have hpl := HOK.out.part
        have HPL : Hid ((L.part.length : Int) ≤ 269) := by
          show (L.part.length : Int) ≤ 269
          unfold most16 at hpl
          rw [HK1.out] at hpl
          omega
        have HCL := Lib.hid hcl
        clear hcl hpl
        by_cases h0 : kind = 0
        · subst h0
          obtain ⟨w6, cp, hconv, ht6, hrd6, -, -, -⟩ := conv_ex w5 sa HGD.out
          have HL6 := Lib.hid (HL5.out.no ht6)
          have HRD6 := Lib.hid hrd6
          clear ht6 hrd6
          go_wp2_with fail
          refine (lg_feed HL6.out (by rw [HK1.out]; omega) HOK.out.ok (sb sa) _ _ _ (sb_length sa) HRD6.out (sb_in sa) (by have := HPL.out; have := HCL.out; omega)).mono ?_
          rintro e w7 ⟨A7, c7, rfl, -, hL7, -⟩
          have HFIN : Hid (s.size ≤ 256 * (i + 1) ∧ LgAt w2 w7 g k (L.feed k (sb sa)).1 ∧ (L.feed k (sb sa)).1.okb k (700 * (i + 1)) ∧ ∃ all low, EndsI k draw (sb s) all low (i + 1) (L.feed k (sb sa)).1) :=
            ⟨by omega, hL7, (Lg.feed_okb k _ L HOK.out (sb sa) (sb_in sa) (by rw [sb_length]; have := HPL.out; omega)).mono (by rw [sb_length]; have := HPL.out; omega), by
              obtain ⟨all, low, h⟩ := HEI.out
              exact ⟨all, low, (h.feed (sb sa)).mono (by omega)⟩⟩
          clear hL7
          go_wp2_with fail
          go_roundw
          · exact ⟨i + 1, _, _, by omega, by omega, by go_num, rfl, HFIN.out⟩
          · simp [intOf]; omega
        by_cases h1 : kind = 1
        · subst h1
          go_wp2_with fail
          refine (lg_send HL5.out op 0 sa HGD.out (by rw [HK1.out]; omega) (by rw [HK2.out]; omega) (by rw [HK2.out]; omega)).mono ?_
          rintro e w7 ⟨rfl, hL7, -⟩
          have HFIN : Hid (s.size ≤ 256 * (i + 1) ∧ LgAt w2 w7 g k (L.send k op sa).1 ∧ (L.send k op sa).1.okb k (700 * (i + 1)) ∧ ∃ all low, EndsI k draw (sb s) all low (i + 1) (L.send k op sa).1) :=
            ⟨by omega, hL7, (Lg.send_like k L op sa).okb HOK.out (by have := Lg.send_ctl k L op sa; have := HCL.out; omega), by
              obtain ⟨all, low, h⟩ := HEI.out
              exact (h.mono (Nat.le_succ i)).send op sa (by rw [HK2.out]; omega) (by rw [HK2.out]; omega) (by rw [HK1.out]; omega)⟩
          clear hL7
          go_wp2_with fail
          go_roundw
          · exact ⟨i + 1, _, _, by omega, by omega, by go_num, rfl, HFIN.out⟩
          · simp [intOf]; omega
        by_cases h2 : kind = 2
        · subst h2
          go_wp2_with fail
          refine (lg_ping HL5.out sa HGD.out (by have := HCL.out; omega)).mono ?_
          rintro e w7 ⟨rfl, hL7, -⟩
          have HFIN : Hid (s.size ≤ 256 * (i + 1) ∧ LgAt w2 w7 g k (L.ping k sa).1 ∧ (L.ping k sa).1.okb k (700 * (i + 1)) ∧ ∃ all low, EndsI k draw (sb s) all low (i + 1) (L.ping k sa).1) :=
            ⟨by omega, hL7, (Lg.ping_like k L sa).okb HOK.out (by have := Lg.ping_ctl k L sa; have := HCL.out; omega), by
              obtain ⟨all, low, h⟩ := HEI.out
              exact ⟨all, low, h.ping sa⟩⟩
          clear hL7
          go_wp2_with fail
          go_roundw
          · exact ⟨i + 1, _, _, by omega, by omega, by go_num, rfl, HFIN.out⟩
          · simp [intOf]; omega
        by_cases h4 : kind = 4
        · subst h4
          go_wp2_with fail
          refine (lg_take HL5.out na).mono ?_
          rintro e w7 ⟨g7, rfl, -, hb7, hL7, -⟩
          have hrl : L.o.ring.length ≤ 256 := by have := HL5.out.ring; have := HK3.out; omega
          obtain ⟨P7, hP7, hS7, hcv7⟩ := taken_str HL5.out na hb7
          have hpl := pk_le na L.o.ring.length
          have hp7 : P7.size ≤ 256 := by omega
          have HFIN : Hid ((s ++ P7).size ≤ 256 * (i + 1) ∧ LgAt w2 w7 g k (L.take k na) ∧ (L.take k na).okb k (700 * (i + 1)) ∧ ∃ all low, EndsI k draw (sb (s ++ P7)) all low (i + 1) (L.take k na)) :=
            ⟨by rw [ByteArray.size_append]; omega, hL7, (Lg.take_like k L na).okb HOK.out (by have := Lg.take_ctl k L na; have := HCL.out; omega), by
              obtain ⟨all, low, h⟩ := HEI.out
              refine ⟨all, low, ?_⟩
              rw [sb_append, hS7]
              exact (h.take na).mono (Nat.le_succ i)⟩
          obtain ⟨pn, hpn⟩ : ∃ x, x = pk na L.o.ring.length := ⟨_, rfl⟩
          rw [← hpn] at hcv7 ⊢
          clear hL7 hb7 hS7 hpn hP7 hpl
          go_wp2_with fail
          go_roundw
          · exact ⟨i + 1, _, _, by omega, by omega, by go_num, rfl, HFIN.out⟩
          · simp [intOf]; omega
        · have HFIN : Hid (s.size ≤ 256 * (i + 1) ∧ LgAt w2 w5 g k L ∧ L.okb k (700 * (i + 1)) ∧ ∃ all low, EndsI k draw (sb s) all low (i + 1) L) := ⟨by omega, HL5.out, HOK.out.mono (by omega), by
            obtain ⟨all, low, h⟩ := HEI.out
            exact ⟨all, low, h.mono (Nat.le_succ i)⟩⟩
          go_wp2_with fail
          go_roundw
          · exact ⟨i + 1, _, _, by omega, by omega, by go_num, rfl, HFIN.out⟩
          · simp [intOf]; omega
      · have HOK2 := Lib.hid (HOK.out.mono (show 700 * i ≤ 700 * (i + 1) by omega))
        have HEI2 : Hid (∃ all low, EndsI k draw (sb s) all low (i + 1) L) := by
          obtain ⟨all, low, h⟩ := HEI.out
          exact ⟨all, low, h.mono (Nat.le_succ i)⟩
        clear HOK HEI
        by_cases hfew : sa.size ≤ 300
        · have hk3 : kind = 3 := Decidable.byContradiction fun h => hskip ⟨hfew, h⟩
          subst hk3
          rw [decide_eq_true hfew]
          go_wp2_with fail
          go_roundw
          · exact ⟨i + 1, L, s, by omega, by omega, by go_num, rfl, by omega, HL5.out, HOK2.out, HEI2.out⟩
          · simp [intOf]; omega
        · rw [decide_eq_false hfew]
          go_wp2_with fail
          go_roundw
          · exact ⟨i + 1, L, s, by omega, by omega, by go_num, rfl, by omega, HL5.out, HOK2.out, HEI2.out⟩
          · simp [intOf]; omega
    | false =>
      have hrl : L.o.ring.length ≤ 256 := by have := HL.out.ring; have := HK3.out; omega
      obtain ⟨all, low, hei⟩ := HEI.out
      obtain ⟨hwt, hst⟩ := hei.wt hrl (by omega)
      have HOUT := Lib.hid (l_outs HL.out hst (by rw [HK3.out]; omega) hwt (fun S L => EndsI k draw S all low i L) (fun S L h => h.take 1000) (sb s) hei)
      clear hrl hei hwt hst hbq HEI HOK HL
      go_wp2_with fail
      refine HOUT.out.mono ?_
      rintro e w5 ⟨t, L5, rfl, ht5, hL5, hq5, hei5, -, -, -, -⟩
      have hei6 : EndsI k draw (sb (s ++ t)) all low i L5 := by rw [sb_append]; exact hei5
      have hxz : (s ++ t).size ≤ 107680 := by rw [ByteArray.size_append]; omega
      obtain ⟨fs, hsc, hend⟩ := hei6.over hq5 (by rw [sb_length]; unfold maxLen; omega)
      rw [HK4.out] at hsc
      obtain ⟨X, hX⟩ : ∃ X, X = s ++ t := ⟨_, rfl⟩
      have HX := Lib.hid hX
      rw [← hX] at hxz hsc
      obtain ⟨m, hm⟩ : ∃ m, m = fs.length := ⟨_, rfl⟩
      have HALL := Lib.hid (fun W => all_frames (s := X) (by omega) (!mk) hsc m hm.symm W)
      have HL5 := Lib.hid hL5
      have HSD := Lib.hid hei6.sent
      have HERR := Lib.hid hei6.err
      have HEND := Lib.hid hend
      have HM := Lib.hid hm.symm
      clear hL5 hq5 hei5 hei6 hsc hend hX hm HOUT
      go_wp2_with fail
      rw [← HX.out]
      refine (HALL.out _).mono ?_
      rintro e w6 ⟨A6, c6, rfl, hr6, hc6, hc6m, ht6⟩
      unfold maxLen at hc6m
      have HR6 := Lib.hid hr6
      have HL6 := Lib.hid (HL5.out.no ht6)
      have HTF := Lib.hid (HT2.out.trans HL6.out.old)
      clear hr6 ht6 HALL HL5
      go_wp2_with fail
      refine (lg_sent HL6.out).mono ?_
      rintro e w7 ⟨rfl, rfl⟩
      cases hs5 : L5.sent with
      | false =>
        have hdn := HSD.out
        rw [hs5] at hdn
        unfold Lg.down at hdn
        rw [eq_comm, Bool.or_eq_false_iff] at hdn
        obtain ⟨hg5, hw5⟩ := hdn
        have hw5' : L5.wrong = 0 := by simpa using hw5
        clear hw5 hs5
        go_wp2_with fail
        refine (lg_wrong HL6.out).mono ?_
        rintro e w7 ⟨rfl, rfl⟩
        rw [hw5']
        go_wp2_with fail
        refine (lg_got HL6.out).mono ?_
        rintro e w7 ⟨rfl, rfl⟩
        rw [hg5]
        go_wp2_with fail
        go_ret
        exact ⟨rfl, HTF.out⟩
      | true =>
        obtain ⟨h0, h8, hC, hdz⟩ := HEND.out hs5
        obtain ⟨g6, o6, rfl, hg6, a0, a1, a2, a3, a4, a5, a6, a7⟩ := fr_cells HR6.out (fs.length - 1) h0
        rw [h8] at a1
        obtain ⟨d, hd⟩ : ∃ d, d = fs[fs.length - 1].data := ⟨_, rfl⟩
        rw [← hd] at a7 hC hdz
        rw [HM.out] at a1 a7 h0
        obtain ⟨wv, hwv⟩ : ∃ x, x = L5.wrong := ⟨_, rfl⟩
        rw [← hwv] at hC
        have herr := HERR.out
        rw [← hwv] at herr
        have HWV := Lib.hid hwv
        have HC := Lib.hid hC
        have HERR2 := Lib.hid herr
        have hki : ((m : Int) - 1).toNat = m - 1 := by omega
        have hm0 : ¬ (m : Int) = 0 := by omega
        have hd1 : decide ((m : Int) = 0) = false := decide_eq_false hm0
        clear h8 hd hC hwv herr hs5 HEND HSD HERR a0 a2 a3 a4 a5 a6
        obtain ⟨cd, hcd⟩ : ∃ x, x = codeAt d := ⟨_, rfl⟩
        have HCD := Lib.hid hcd
        unfold codeAt at hcd
        by_cases hd2 : d.size < 2
        · rw [if_pos hd2] at hcd
          subst hcd
          have hd2i : ¬ (2 : Int) ≤ d.size := by omega
          go_wp2_with fail
          refine (lg_wrong HL6.out).mono ?_
          rintro e w7 ⟨rfl, rfl⟩
          rw [← HWV.out]
          rcases HERR2.out with h | h
          · subst h
            obtain ⟨hgt, c1, c2, c3⟩ := HC.out.fine rfl
            go_wp2_with fail
            refine (lg_got HL6.out).mono ?_
            rintro e w7 ⟨rfl, rfl⟩
            rw [hgt]
            go_wp2_with fail
            go_ret
            exact ⟨by first | rfl | simp, HTF.out⟩
          · exfalso
            have hb := HC.out.bad h.ne
            rw [← HCD.out] at hb
            rcases h with rfl | rfl | rfl | rfl | rfl | rfl | rfl | rfl
            all_goals exact absurd hb (by decide)
        · rw [if_neg hd2] at hcd
          have hd2n : 2 ≤ d.size := by omega
          obtain ⟨x, hx⟩ : ∃ x, x = (sb d).getD 0 0 := ⟨_, rfl⟩
          obtain ⟨v, hv⟩ : ∃ v, v = (sb d).getD 1 0 := ⟨_, rfl⟩
          have hx8 : 0 ≤ x ∧ x ≤ 255 := by rw [hx]; exact getD_in (sb_in d) 0 (by omega) 0
          have hv8 : 0 ≤ v ∧ v ≤ 255 := by rw [hv]; exact getD_in (sb_in d) 0 (by omega) 1
          have hxs : ((d[0].toNat : Nat) : Int) = x := by rw [hx, sb_getD d 0 (by omega)]
          have hvs : ((d[1].toNat : Nat) : Int) = v := by rw [hv, sb_getD d 1 (by omega)]
          have hcd2 : cd = 256 * x + v := by rw [hcd]; unfold codeOf; rw [← hx, ← hv]; omega
          have HCD2 := Lib.hid hcd2
          have hw1 : IntKind.i64.wrap (256 * x) = 256 * x := IntWalk.i64_in _ (by omega)
          have hw2 : IntKind.i64.wrap (256 * x + v) = 256 * x + v := IntWalk.i64_in _ (by omega)
          have hw3 : IntKind.i64.wrap x = x := IntWalk.i64_in _ (by omega)
          have hw4 : IntKind.i64.wrap v = v := IntWalk.i64_in _ (by omega)
          have p0 : (0 : Int) < d.size := by omega
          have p1 : (1 : Int) < d.size := by omega
          have p2 : (2 : Int) ≤ d.size := by omega
          clear hx hv hcd hcd2
          go_wp2_with fail
          go_quiet (fail)
          go_wp2_with fail
          have HL7 := Lib.hid (HL6.out.no ((Touch.refl NoS w6).drewN nq))
          have HTF2 : Hid (Touch NoS w (w6.drewN nq)) := HTF.out.drewN _
          clear hw1 hw2 hw3 hw4 hxs hvs
          refine (lg_wrong HL7.out).mono ?_
          rintro e w7 ⟨rfl, rfl⟩
          rw [← HWV.out, ← HCD2.out]
          rcases HERR2.out with h | h
          · subst h
            obtain ⟨hgt, c1, c2, c3⟩ := HC.out.fine rfl
            rw [← HCD.out] at c1 c2 c3
            have q1 : (cd != 1005) = true := by rw [bne_iff_ne]; exact c1
            have q2 : (cd != 1006) = true := by rw [bne_iff_ne]; exact c2
            have q3 : (cd != 1015) = true := by rw [bne_iff_ne]; exact c3
            go_wp2_with fail
            refine (lg_got HL7.out).mono ?_
            rintro e w7 ⟨rfl, rfl⟩
            rw [hgt]
            go_wp2_with fail
            go_ret
            exact ⟨by first | rfl | simp [c1, c2, c3], HTF2.out⟩
          · have hb := HC.out.bad h.ne
            rw [← HCD.out] at hb
            rcases h with rfl | rfl | rfl | rfl | rfl | rfl | rfl | rfl
            · obtain rfl : cd = 1002 := hb
              go_wp2_with fail
              go_ret
              exact ⟨rfl, HTF2.out⟩
            · obtain rfl : cd = 1009 := hb
              go_wp2_with fail
              go_ret
              exact ⟨rfl, HTF2.out⟩
            · obtain rfl : cd = 1002 := hb
              go_wp2_with fail
              go_ret
              exact ⟨rfl, HTF2.out⟩
            · obtain rfl : cd = 1002 := hb
              go_wp2_with fail
              go_ret
              exact ⟨rfl, HTF2.out⟩
            · obtain rfl : cd = 1007 := hb
              go_wp2_with fail
              go_ret
              exact ⟨rfl, HTF2.out⟩
            · obtain rfl : cd = 1002 := hb
              go_wp2_with fail
              go_ret
              exact ⟨rfl, HTF2.out⟩
            · obtain rfl : cd = 1009 := hb
              go_wp2_with fail
              go_ret
              exact ⟨rfl, HTF2.out⟩
            · obtain rfl : cd = 1007 := hb
              go_wp2_with fail
              go_ret
              exact ⟨rfl, HTF2.out⟩
end Go.Proofs.YtpadlcllcmodaaaGreat
