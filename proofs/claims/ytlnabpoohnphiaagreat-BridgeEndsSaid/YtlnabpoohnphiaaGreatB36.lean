/- bridge: Take, Tick. | bridge: Tick, Over. -/
import Derived.Test.YtlnabpoohnphiaaGreatB35
/- bridge: Take, Tick. -/
namespace Go.Proofs.YtlnabpoohnphiaaGreat
open Go.RowKit
set_option linter.unusedSimpArgs false
set_option linter.unusedVariables false

section
variable {E : Nat → Prop} {w w' : World} {g : Nat} {X : Bx} {K : Bk} {gl gq : Bool → Nat} {B B' : Br}
theorem IsB.leg' {E' : Nat → Prop} (h : IsB E w g X K gl gq B) {i : Bool} {L : Lg} (hl : Legs E' w' gl K.k (upd (fun i => (B i).leg) i L)) (k : ByT LegT w w') (he : ∀ b, E' b → E b ∨ w.heap.size ≤ b) : IsB E' w' g X K gl gq (B.set i { B i with leg := L }) := by
  refine ⟨?_, ?_, fun j => ?_, h.ne, fun h2 => ?_, fun j h2 => ?_⟩
  · have hc : brC X K gl gq (B.set i { B i with leg := L }) = brC X K gl gq B := by cases i <;> rfl
    rw [hc]
    exact k.blk h.blk (out_not (by decide))
  · rw [show (fun j => (B.set i { B i with leg := L } j).leg) = upd (fun i => (B i).leg) i L from funext fun j => by
      unfold Br.set upd
      split <;> rfl]
    exact hl
  · have : (B.set i { B i with leg := L } j).q = (B j).q := by
      unfold Br.set
      split
      · rename_i h
        rw [h]
      · rfl
    rw [this]
    exact (h.q j).types k (out_not (by decide)) (out_not (by decide))
  · rcases he _ h2 with h3 | h3
    · exact h.new h3
    · have := h.blk.lt
      omega
  · rcases he _ h2 with h3 | h3
    · exact h.newq j h3
    · have := (h.q j).lt
      omega
set_option maxHeartbeats 6400000 in
set_option maxRecDepth 100000 in
theorem b_take (h : IsB E w g X K gl gq B) {n : Nat} {t : Int} (hI : BrI K n t B) (hK : Kfits K) (hn : n ≤ 100000) (i : Bool) (x : Int) : Calls Tryz.prog 18 #[.pointer (some ⟨g, 0, none⟩), .int .i64 i.toNat, .int .i64 x] w fun e w' => (∃ A c, e = .returned (.slice A (outB (B i) x).length c) ∧ Rd w' A (u8s (outB (B i) x))) ∧ Sett E w w' g X K gl gq (B.take K i x) := by
  have HH := Lib.hid (fun W => has_i i W)
  obtain ⟨c0, -, c2, -, -, -, -, cl⟩ := side_cells h i _ rfl
  have HTK := Lib.hid (lb_take i h.legs x)
  have hil := i_lt i
  have hpl : ((B i).leg.o.ring.take (pk x (B i).leg.o.ring.length)).length = pk x (B i).leg.o.ring.length := by rw [List.length_take, Nat.min_eq_left (pk_le _ _)]
  have hIt : BrI K n t (B.set i { B i with leg := (B i).leg.take (K.k i) x }) := by
    have := hI.side i
    exact hI.set (s := { B i with leg := (B i).leg.take (K.k i) x }) i ⟨this.leg.take x, this.q, this.heard, this.ending, this.last⟩
  have H0 := Lib.hid h
  have HIT := Lib.hid hIt
  have HK := Lib.hid hK
  have hob : (B i).lost = true → outB (B i) x = [] := fun hl => if_pos hl
  have hob2 : (B i).lost = false → outB (B i) x = (B i).leg.o.ring.take (pk x (B i).leg.o.ring.length) := fun hl => if_neg (by rw [hl]; simp)
  have htk : (B i).lost = true → B.take K i x = B := fun hl => if_pos hl
  have htk2 : (B i).lost = false → B.take K i x = (B.set i { B i with leg := (B i).leg.take (K.k i) x }).settle K := fun hl => if_neg (by rw [hl]; simp)
  obtain ⟨j, hj⟩ : ∃ j, j = i.toNat := ⟨_, rfl⟩
  obtain ⟨li, hli⟩ : ∃ x, x = gl i := ⟨_, rfl⟩
  obtain ⟨pn, hpn⟩ : ∃ y, y = pk x (B i).leg.o.ring.length := ⟨_, rfl⟩
  rw [← hj] at HH c0 c2 hil ⊢
  rw [← hli] at c0 HTK
  rw [← hpn] at HTK hpl hob2
  have HPN := Lib.hid hpl
  cases hlost : (B i).lost with
  | true =>
    rw [hlost] at c2
    have HOB := Lib.hid (hob hlost)
    have HT := Lib.hid (htk hlost)
    clear h hI hIt hj hli hpn hob hob2 htk htk2 hlost hpl hK HTK c0
    go_enter Tryz.func18, Tryz.ntmps18
    go_wp2_with fail
    refine (HH.out _).mono ?_
    rintro e w2 ⟨rfl, rfl⟩
    go_wp2_with fail
    go_ret
    rw [HOB.out, HT.out]
    exact ⟨⟨none, 0, rfl, fun h => absurd rfl h⟩, Sett.start H0.out⟩
  | false =>
    rw [hlost] at c2
    have HOB := Lib.hid (hob2 hlost)
    have HT := Lib.hid (htk2 hlost)
    clear h hI hIt hj hli hpn hob hob2 htk htk2 hlost hpl hK
    go_enter Tryz.func18, Tryz.ntmps18
    go_wp2_with fail
    refine (HH.out _).mono ?_
    rintro e w2 ⟨rfl, rfl⟩
    go_wp2_with fail
    refine HTK.out.mono ?_
    rintro e w3 ⟨g2, rfl, hg2, hb2, hl3, ht3, hy3⟩
    have hB3 := H0.out.leg' hl3 hy3 (fun b hb => by
      rcases hb with hb | hb
      · exact .inl hb
      · exact .inr (by rw [hb]; exact hg2))
    have hr3 := Blk.rd_all hb2
    have HR3 := Lib.hid hr3
    have HY3 := Lib.hid (hy3.mono (U := BrT) fun t ht => .inl ht)
    have HT3 := Lib.hid ht3
    have HSE := Lib.hid (b_settle hB3 HIT.out HK.out hn)
    clear hl3 ht3 hy3 hb2 hB3 hr3 hg2
    go_wp2_with fail
    refine HSE.out.mono ?_
    rintro e w4 ⟨rfl, hs4⟩
    have hr4 := hs4.touch.rd HR3.out (fun h => h (.inr rfl))
    have HR4 := Lib.hid hr4
    have HS4 : Hid (Sett E w w4 g X K gl gq ((B.set i { B i with leg := (B i).leg.take (K.k i) x }).settle K)) :=
      ⟨hs4.is.less fun b hb => .inl hb, HT3.out.trans (hs4.touch.mono fun b hb he => hb (.inl he)), HY3.out.trans hs4.byT⟩
    clear hs4 hr4
    go_wp2_with fail
    go_ret
    rw [HOB.out, HT.out, HPN.out]
    exact ⟨⟨_, _, rfl, HR4.out⟩, HS4.out⟩
set_option maxHeartbeats 6400000 in
set_option maxRecDepth 100000 in
theorem b_take_no {i : Int} (h0 : i ≠ 0) (h1 : i ≠ 1) (x : Int) (w : World) : Calls Tryz.prog 18 #[.pointer (some ⟨g, 0, none⟩), .int .i64 i, .int .i64 x] w fun e w' => e = .returned (.slice none 0 0) ∧ w = w' := by
  have HH := Lib.hid (fun W => has_no h0 h1 W)
  clear h0 h1
  go_enter Tryz.func18, Tryz.ntmps18
  go_wp2_with fail
  refine (HH.out _).mono ?_
  rintro e w2 ⟨rfl, rfl⟩
  go_wp2_with fail
  go_ret
  exact ⟨rfl, rfl⟩
set_option maxHeartbeats 12800000 in
set_option maxRecDepth 100000 in
theorem b_tick1 {w0 : World} (h : Sett E w0 w g X K gl gq B) {n : Nat} {t : Int} (hI : BrI K n t B) (ht : t ≤ 1000000000000000) (hn : n ≤ 100000) (i : Bool) (j : Nat) (hj : i.toNat = j) (x : Int) (hx : 0 ≤ x ∧ x ≤ 1073741824) :
    Calls Tryz.prog 48 #[.pointer (some ⟨g, 0, none⟩), .int .i64 j, .int .i64 x] w fun e w' => e = .returned (.tuple #[]) ∧ Sett E w0 w' g X K gl gq (B.tick1 K i x) := by
  have hil : (j : Int) < 2 := by rw [← hj]; exact i_lt i
  obtain ⟨c0, -, c2, -, c4, c5, c6, cl⟩ := side_cells h.is i j hj
  obtain ⟨w00, hsd⟩ := h.is.side i
  have HSN := Lib.hid (lg_sent hsd)
  have hh := hI.heard i
  have he := hI.ending i
  have hfz := fun k => h.is.blk.frozen k
  have z9 : w.cell? ⟨g, 9, none⟩ = some (.int .i64 K.idle) := by rw [h.is.blk.cell]; rfl
  have z10 : w.cell? ⟨g, 10, none⟩ = some (.int .i64 K.pong) := by rw [h.is.blk.cell]; rfl
  have z11 : w.cell? ⟨g, 11, none⟩ = some (.int .i64 K.close) := by rw [h.is.blk.cell]; rfl
  obtain ⟨sent, hsent⟩ : ∃ y, y = (B i).leg.sent := ⟨_, rfl⟩
  obtain ⟨ask, hask⟩ : ∃ y, y = (B i).asked := ⟨_, rfl⟩
  obtain ⟨hd, hhd⟩ : ∃ y, y = (B i).heard := ⟨_, rfl⟩
  obtain ⟨en, hen⟩ : ∃ y, y = (B i).ending := ⟨_, rfl⟩
  obtain ⟨li, hli⟩ : ∃ y, y = gl i := ⟨_, rfl⟩
  rw [← hsent] at HSN
  rw [← hli] at c0 HSN
  rw [← hask] at c5
  rw [← hhd] at c4 hh
  rw [← hen] at c6 he
  have f2 := hfz (12 + j * 7 + 2)
  have f4 := hfz (12 + j * 7 + 4)
  have f5 := hfz (12 + j * 7 + 5)
  have f6 := hfz (12 + j * 7 + 6)
  have HS := Lib.hid h
  have HI := Lib.hid hI
  cases sent with
  | true =>
    have ht1 : B.tick1 K i x = B.set i { B i with ending := en + x, lost := decide (K.close < en + x) } := by
      unfold Br.tick1
      rw [if_pos hsent.symm, hen]
    have hs1 := h.store i 6 j hj (.int .i64 (en + x)) { B i with ending := en + x } (by cases i <;> rfl) rfl rfl
    have hs2 := hs1.store i 2 j hj (.bool (decide (K.close < en + x))) { B i with ending := en + x, lost := decide (K.close < en + x) } (by cases i <;> rfl) (by cases i <;> rfl) (by cases i <;> rfl)
    rw [Br.set_set] at hs2
    have HS2 := Lib.hid hs2
    have HT1 := Lib.hid ht1
    have hsum : IntKind.i64.wrap (en + x) = en + x := IntWalk.i64_in _ (by omega)
    clear h hI hsd hsent hask hhd hen hli ht1 hs1 hs2 hj c4 c5 z9 z10 f4 f5 hfz
    go_enter Tryz.func48, Tryz.ntmps48
    go_wp2_with fail
    refine HSN.out.mono ?_
    rintro e w2 ⟨rfl, rfl⟩
    go_wp2_with fail
    go_region
    all_goals
      go_wp2_with fail
      refine bodyPost_ret (results_none rfl _ _ _) rfl ?_
      rw [HT1.out]
      exact ⟨rfl, HS2.out.no (Touch.refl _ _).drew⟩
  | false =>
    have hs1 := h.store i 4 j hj (.int .i64 (hd + x)) { B i with heard := hd + x } (by cases i <;> rfl) rfl rfl
    have HS1 := Lib.hid hs1
    have hsum : IntKind.i64.wrap (hd + x) = hd + x := IntWalk.i64_in _ (by omega)
    have hb1 := hs1.is.blk
    cases ask with
    | true =>
      have ht1 : B.tick1 K i x = if K.pong < hd + x then (B.set i { B i with heard := hd + x }).lose1 i else B.set i { B i with heard := hd + x } := by
        unfold Br.tick1
        rw [if_neg (by rw [← hsent]; simp), if_pos hask.symm, ← hhd]
      have HT1 := Lib.hid ht1
      have HLO := Lib.hid (fun W (t : Touch NoS (w.setCell ⟨g, 12 + j * 7 + 4, none⟩ (.int .i64 (hd + x))) W) => b_lose1 (HS1.out.no t) i j hj)
      have y4 : (w.setCell ⟨g, 12 + j * 7 + 4, none⟩ (.int .i64 (hd + x))).cell? ⟨g, 12 + j * 7 + 4, none⟩ = some (.int .i64 (hd + x)) := by
        obtain ⟨-, -, -, -, q4, -, -, -⟩ := side_cells hs1.is i j hj
        rw [Br.set_same] at q4
        exact q4
      have y5 : (w.setCell ⟨g, 12 + j * 7 + 4, none⟩ (.int .i64 (hd + x))).cell? ⟨g, 12 + j * 7 + 5, none⟩ = some (.bool true) := by
        obtain ⟨-, -, -, -, -, q5, -, -⟩ := side_cells hs1.is i j hj
        rw [Br.set_same] at q5
        rw [hask]
        exact q5
      have y10 : (w.setCell ⟨g, 12 + j * 7 + 4, none⟩ (.int .i64 (hd + x))).cell? ⟨g, 10, none⟩ = some (.int .i64 K.pong) := by rw [hb1.cell]; rfl
      have y9 : (w.setCell ⟨g, 12 + j * 7 + 4, none⟩ (.int .i64 (hd + x))).cell? ⟨g, 9, none⟩ = some (.int .i64 K.idle) := by rw [hb1.cell]; rfl
      have yl := hb1.lt
      obtain ⟨w1, hw1⟩ : ∃ y, y = w.setCell ⟨g, 12 + j * 7 + 4, none⟩ (.int .i64 (hd + x)) := ⟨_, rfl⟩
      rw [← hw1] at HS1 HLO y4 y5 y10 y9 yl
      clear h hI hsd hsent hask hhd hen hli ht1 hs1 hj c2 c5 c6 z9 z10 z11 f5 f6 f2 hfz hb1
      go_enter Tryz.func48, Tryz.ntmps48
      go_wp2_with fail
      refine HSN.out.mono ?_
      rintro e w2 ⟨rfl, rfl⟩
      go_wp2_with fail
      rw [← hw1]
      clear hw1 c4 f4 c0
      go_quiet (fail)
      by_cases hp : K.pong < hd + x
      · go_wp2_with fail
        refine (HLO.out _ ((Touch.refl _ _).drewN _)).mono ?_
        rintro e w5 ⟨rfl, hs5⟩
        have HS5 := Lib.hid hs5
        have HP := Lib.hid hp
        clear hs5 hp
        go_wp2_with fail
        go_end0
        rw [HT1.out, if_pos HP.out]
        exact ⟨rfl, HS5.out⟩
      · have HP := Lib.hid hp
        go_wp2_with fail
        go_quiet (fail)
        go_wp2_with fail
        go_end0
        rw [HT1.out, if_neg (by have := HP.out; omega)]
        exact ⟨rfl, HS1.out.no (((Touch.refl _ _).drewN _).drewN _)⟩
    | false =>
      have ht1 : B.tick1 K i x = if K.idle < hd + x then B.set i { B i with heard := 0, asked := true, leg := ((B i).leg.ping (K.k i) ⟨#[]⟩).1 } else B.set i { B i with heard := hd + x } := by
        unfold Br.tick1
        rw [if_neg (by rw [← hsent]; simp), if_neg (by rw [← hask]; simp), ← hhd]
      have HT1 := Lib.hid ht1
      have hctl : (B i).leg.o.ctl.length ≤ 1000000 := by have := (hI.leg i).ctl; omega
      have HPI : Hid (∀ W, Touch NoS (w.setCell ⟨g, 12 + j * 7 + 4, none⟩ (.int .i64 (hd + x))) W → Calls Tryz.prog 73 #[.pointer (some ⟨li, 0, none⟩), .string ⟨#[]⟩] ((W.setCell ⟨g, 12 + j * 7 + 5, none⟩ (.bool true)).setCell ⟨g, 12 + j * 7 + 4, none⟩ (.int .i64 0)) fun e w' => (∃ r, e = .returned (.bool r)) ∧ Sett E w0 w' g X K gl gq (B.set i { B i with heard := 0, asked := true, leg := ((B i).leg.ping (K.k i) ⟨#[]⟩).1 })) := fun W t => by
        have h2 := (HS1.out.no t).store i 5 j hj (.bool true) { B i with heard := hd + x, asked := true } (by cases i <;> rfl) (by cases i <;> rfl) (by cases i <;> rfl)
        rw [Br.set_set] at h2
        have h3 := h2.store i 4 j hj (.int .i64 0) { B i with heard := 0, asked := true } (by cases i <;> rfl) (by cases i <;> rfl) (by cases i <;> rfl)
        rw [Br.set_set] at h3
        have hp := lb_ping i h3.is.legs ⟨#[]⟩ (by unfold maxLen; decide) (by simp only [Br.set_same]; exact hctl)
        rw [hli]
        refine hp.mono ?_
        rintro e w' ⟨rfl, q1, q2, q3⟩
        refine ⟨⟨_, rfl⟩, ?_⟩
        have h4 := h3.trans (h3.is.leg q1 q3) q2 (q3.mono (U := BrT) fun t ht => .inl ht)
        simp only [Br.set_same, Br.set_set] at h4
        exact h4
      have y4 : (w.setCell ⟨g, 12 + j * 7 + 4, none⟩ (.int .i64 (hd + x))).cell? ⟨g, 12 + j * 7 + 4, none⟩ = some (.int .i64 (hd + x)) := by
        obtain ⟨-, -, -, -, q4, -, -, -⟩ := side_cells hs1.is i j hj
        rw [Br.set_same] at q4
        exact q4
      have y5 : (w.setCell ⟨g, 12 + j * 7 + 4, none⟩ (.int .i64 (hd + x))).cell? ⟨g, 12 + j * 7 + 5, none⟩ = some (.bool false) := by
        obtain ⟨-, -, -, -, -, q5, -, -⟩ := side_cells hs1.is i j hj
        rw [Br.set_same] at q5
        rw [hask]
        exact q5
      have y0 : (w.setCell ⟨g, 12 + j * 7 + 4, none⟩ (.int .i64 (hd + x))).cell? ⟨g, 12 + j * 7, none⟩ = some (.pointer (some ⟨li, 0, none⟩)) := by
        obtain ⟨q0, -⟩ := side_cells hs1.is i j hj
        rw [hli]
        exact q0
      have y9 : (w.setCell ⟨g, 12 + j * 7 + 4, none⟩ (.int .i64 (hd + x))).cell? ⟨g, 9, none⟩ = some (.int .i64 K.idle) := by rw [hb1.cell]; rfl
      have yl := hb1.lt
      have e4 := fun k => hb1.frozen k
      have e44 := e4 (12 + j * 7 + 4)
      have e45 := e4 (12 + j * 7 + 5)
      obtain ⟨w1, hw1⟩ : ∃ y, y = w.setCell ⟨g, 12 + j * 7 + 4, none⟩ (.int .i64 (hd + x)) := ⟨_, rfl⟩
      rw [← hw1] at HS1 HPI y4 y5 y9 y0 yl e44 e45
      clear h hI hsd hsent hask hhd hen hli ht1 hs1 hj c2 c5 c6 z9 z10 z11 f5 f6 f2 hfz hb1 e4 hctl
      go_enter Tryz.func48, Tryz.ntmps48
      go_wp2_with fail
      refine HSN.out.mono ?_
      rintro e w2 ⟨rfl, rfl⟩
      go_wp2_with fail
      rw [← hw1]
      clear hw1 c4 f4 c0
      go_quiet (fail)
      go_wp2_with fail
      by_cases hp : K.idle < hd + x
      · go_quiet (fail)
        have HP := Lib.hid hp
        clear hp
        go_wp2_with fail
        refine (HPI.out _ ((Touch.refl _ _).drewN _)).mono ?_
        rintro e w5 ⟨⟨r, rfl⟩, hs5⟩
        have HS5 := Lib.hid hs5
        clear hs5
        go_wp2_with fail
        go_end0
        rw [HT1.out, if_pos HP.out]
        exact ⟨rfl, HS5.out⟩
      · go_quiet (fail)
        have HP := Lib.hid hp
        clear hp
        go_wp2_with fail
        go_end0
        rw [HT1.out, if_neg (by have := HP.out; omega)]
        exact ⟨rfl, HS1.out.no ((Touch.refl _ _).drewN _)⟩
end
end Go.Proofs.YtlnabpoohnphiaaGreat
/- bridge: Tick, Over. -/
namespace Go.Proofs.YtlnabpoohnphiaaGreat
open Go.RowKit
set_option linter.unusedSimpArgs false
set_option linter.unusedVariables false

section
variable {E : Nat → Prop} {w w' : World} {g : Nat} {X : Bx} {K : Bk} {gl gq : Bool → Nat} {B B' : Br}
def tickJ (K : Bk) (B : Br) (x : Int) (j : Nat) : Br := if j = 0 then B else if j = 1 then B.tickS K false x else (B.tickS K false x).tickS K true x
theorem tickJ_next (K : Bk) (B : Br) (x : Int) (i : Bool) : tickJ K B x (i.toNat + 1) = (tickJ K B x i.toNat).tickS K i x := by
  cases i <;> rfl
theorem tickJ_inv {n : Nat} {t : Int} (h : BrI K n t B) (x : Int) : ∀ j, j ≤ 2 → BrI K (n + 2) (t + 2147483648) (tickJ K B x j) := by
  intro j hj
  have h1 := h.tickS false x
  have h2 := h1.tickS true x
  unfold tickJ
  split
  · exact h.mono (by omega) (by omega)
  split
  · exact h1.mono (by omega) (by omega)
  · exact h2.mono (by omega) (by omega)
set_option maxHeartbeats 12800000 in
set_option maxRecDepth 100000 in
theorem b_tick (h : IsB E w g X K gl gq B) {n : Nat} {t : Int} (hI : BrI K n t B) (hK : Kfits K) (ht : t ≤ 900000000000000) (hn : n ≤ 90000) (x : Int) :
    Calls Tryz.prog 23 #[.pointer (some ⟨g, 0, none⟩), .int .i64 x] w fun e w' => e = .returned (.tuple #[]) ∧ Sett E w w' g X K gl gq (B.tick K x) := by
  have HS0 := Lib.hid (Sett.start h)
  have HI := Lib.hid hI
  have HK := Lib.hid hK
  obtain ⟨c, hc⟩ : ∃ c, c = clampT x := ⟨_, rfl⟩
  have hcb : 0 ≤ c ∧ c ≤ 1073741824 := by rw [hc]; unfold clampT; omega
  have hmm : min (max x 0) 1073741824 = c := by rw [hc]; rfl
  have HC := Lib.hid hc
  clear h hI hK hc
  go_enter Tryz.func23, Tryz.ntmps23
  go_wp2_with fail
  go_loopw [5] (fun iv wr => ∃ j : Nat, j ≤ 2 ∧ iv = .int .i64 j ∧ Hid (Sett E w wr g X K gl gq (tickJ K B x j))) (fun iv _ => 2 - (intOf iv).toNat)
  case atStart => exact ⟨0, by omega, rfl, HS0.out⟩
  case round =>
    obtain ⟨j, hj, rfl, hst⟩ := hrel
    have HS := Lib.hid (show Sett E w wr g X K gl gq (tickJ K B x j) from hst)
    clear hst
    by_cases hj2 : j < 2
    · obtain ⟨i, hi⟩ : ∃ i : Bool, i.toNat = j := by
        rcases (show j = 0 ∨ j = 1 by omega) with h | h
        · exact ⟨false, h.symm⟩
        · exact ⟨true, h.symm⟩
      have hji : (j : Int) < 2 := by omega
      obtain ⟨-, -, c2, -, -, -, -, cl⟩ := side_cells HS.out.is i j hi
      have hnx := tickJ_next K B x i
      rw [hi] at hnx
      unfold Br.tickS at hnx
      rw [← HC.out] at hnx
      have HT1 := Lib.hid (b_tick1 HS.out (tickJ_inv HI.out x j hj) (by omega) (by omega) i j hi c hcb)
      obtain ⟨lost, hlost⟩ : ∃ y, y = (tickJ K B x j i).lost := ⟨_, rfl⟩
      rw [← hlost] at c2 hnx
      have HNX := Lib.hid hnx
      clear hnx hlost hi
      cases lost with
      | true =>
        have HS2 : Hid (Sett E w wr g X K gl gq (tickJ K B x (j + 1))) := by show Sett E w wr g X K gl gq (tickJ K B x (j + 1)); rw [HNX.out, if_pos rfl]; exact HS.out
        clear HNX HS HT1
        go_wp2_with fail
        go_roundw
        · exact ⟨j + 1, by omega, by go_num, HS2.out⟩
        · simp [intOf]; omega
      | false =>
        have HN2 := Lib.hid (HNX.out.trans (if_neg (by simp)))
        clear HNX
        go_wp2_with fail
        refine HT1.out.mono ?_
        rintro e w5 ⟨rfl, hs5⟩
        have HS2 : Hid (Sett E w w5 g X K gl gq (tickJ K B x (j + 1))) := by show Sett E w w5 g X K gl gq (tickJ K B x (j + 1)); rw [HN2.out]; exact hs5
        clear hs5 HT1 HS HN2
        go_wp2_with fail
        go_roundw
        · exact ⟨j + 1, by omega, by go_num, HS2.out⟩
        · simp [intOf]; omega
    · have hj3 : j = 2 := by omega
      subst hj3
      have HSE := Lib.hid (b_settle HS.out.is (tickJ_inv HI.out x 2 (Nat.le_refl _)) HK.out (by omega))
      go_wp2_with fail
      refine HSE.out.mono ?_
      rintro e w5 ⟨rfl, hs5⟩
      have HS5 := Lib.hid (HS.out.trans hs5.is hs5.touch hs5.byT)
      clear hs5
      go_wp2_with fail
      go_end0
      exact ⟨rfl, HS5.out⟩
set_option maxHeartbeats 6400000 in
set_option maxRecDepth 100000 in
theorem s_over (h : IsB E w g X K gl gq B) (i : Bool) : Calls Tryz.prog 47 #[.pointer (some ⟨g, so i, none⟩)] w fun e w' => e = .returned (.bool (B i).over) ∧ w = w' := by
  obtain ⟨c0, c2, -, cl⟩ := sett_cells h i
  obtain ⟨w0, hsd⟩ := h.side i
  have H1 := Lib.hid (lg_sent hsd)
  have H2 := Lib.hid (lg_got hsd)
  have H3 := Lib.hid (lg_wrong hsd)
  have H4 := Lib.hid (lg_quiet hsd)
  obtain ⟨r, hr⟩ : ∃ r, r = (B i).over := ⟨_, rfl⟩
  rw [← hr]
  unfold Sd.over Lg.down at hr
  obtain ⟨o, ho⟩ : ∃ o, o = so i := ⟨_, rfl⟩
  obtain ⟨li, hli⟩ : ∃ x, x = gl i := ⟨_, rfl⟩
  obtain ⟨lost, hl⟩ : ∃ x, x = (B i).lost := ⟨_, rfl⟩
  obtain ⟨sent, hsn⟩ : ∃ x, x = (B i).leg.sent := ⟨_, rfl⟩
  obtain ⟨got, hgt⟩ : ∃ x, x = (B i).leg.got := ⟨_, rfl⟩
  obtain ⟨wr, hwr⟩ : ∃ x, x = (B i).leg.wrong := ⟨_, rfl⟩
  obtain ⟨qt, hqt⟩ : ∃ x, x = (B i).leg.quiet := ⟨_, rfl⟩
  rw [← ho] at c0 c2 ⊢
  rw [← hli] at c0 H1 H2 H3 H4
  rw [← hl] at c2 hr
  rw [← hsn] at H1 hr
  rw [← hgt] at H2 hr
  rw [← hwr] at H3 hr
  rw [← hqt] at H4 hr
  obtain ⟨wz, hwz⟩ : ∃ b, b = decide (wr ≠ 0) := ⟨_, rfl⟩
  rw [← hwz] at hr
  have HR := Lib.hid hr
  clear h hsd ho hli hl hsn hgt hwr hqt hr
  have hq : (wr != 0) = wz := by rw [hwz]; by_cases h : wr = 0 <;> simp [h]
  have hq2 : (wr == 0) = !wz := by rw [hwz]; by_cases h : wr = 0 <;> simp [h]
  clear hwz
  cases lost with
  | true =>
    go_enter Tryz.func47, Tryz.ntmps47
    go_wp2_with fail
    go_ret
    exact ⟨by rw [HR.out]; rfl, rfl⟩
  | false =>
    cases sent with
    | false =>
      go_enter Tryz.func47, Tryz.ntmps47
      go_wp2_with fail
      refine H1.out.mono ?_
      rintro e w2 ⟨rfl, rfl⟩
      go_wp2_with fail
      go_ret
      exact ⟨by rw [HR.out]; rfl, rfl⟩
    | true =>
      cases got with
      | true =>
        go_enter Tryz.func47, Tryz.ntmps47
        go_wp2_with fail
        refine H1.out.mono ?_
        rintro e w2 ⟨rfl, rfl⟩
        go_wp2_with fail
        refine H2.out.mono ?_
        rintro e w2 ⟨rfl, rfl⟩
        go_wp2_with fail
        refine H4.out.mono ?_
        rintro e w2 ⟨rfl, rfl⟩
        go_wp2_with fail
        go_ret
        exact ⟨by rw [HR.out]; rfl, rfl⟩
      | false =>
        cases wz with
        | true =>
          go_enter Tryz.func47, Tryz.ntmps47
          go_wp2_with fail
          refine H1.out.mono ?_
          rintro e w2 ⟨rfl, rfl⟩
          go_wp2_with fail
          refine H2.out.mono ?_
          rintro e w2 ⟨rfl, rfl⟩
          go_wp2_with fail
          refine H3.out.mono ?_
          rintro e w2 ⟨rfl, rfl⟩
          go_wp2_with fail
          refine H4.out.mono ?_
          rintro e w2 ⟨rfl, rfl⟩
          go_wp2_with fail
          go_ret
          exact ⟨by rw [HR.out]; rfl, rfl⟩
        | false =>
          go_enter Tryz.func47, Tryz.ntmps47
          go_wp2_with fail
          refine H1.out.mono ?_
          rintro e w2 ⟨rfl, rfl⟩
          go_wp2_with fail
          refine H2.out.mono ?_
          rintro e w2 ⟨rfl, rfl⟩
          go_wp2_with fail
          refine H3.out.mono ?_
          rintro e w2 ⟨rfl, rfl⟩
          go_wp2_with fail
          go_ret
          exact ⟨by rw [HR.out]; rfl, rfl⟩
set_option maxHeartbeats 6400000 in
set_option maxRecDepth 100000 in
theorem b_over (h : IsB E w g X K gl gq B) : Calls Tryz.prog 22 #[.pointer (some ⟨g, 0, none⟩)] w fun e w' => e = .returned (.bool B.over) ∧ w = w' := by
  have H0 := Lib.hid (s_over h false)
  have H1 := Lib.hid (s_over h true)
  have hbl := h.blk.lt
  unfold Br.over
  obtain ⟨a, ha⟩ : ∃ a, a = (B false).over := ⟨_, rfl⟩
  obtain ⟨b, hb⟩ : ∃ a, a = (B true).over := ⟨_, rfl⟩
  rw [← ha] at H0 ⊢
  rw [← hb] at H1 ⊢
  have HA : Hid (Calls Tryz.prog 47 #[.pointer (some ⟨g, 12, none⟩)] w fun e w' => e = .returned (.bool a) ∧ w = w') := H0.out
  have HB : Hid (Calls Tryz.prog 47 #[.pointer (some ⟨g, 19, none⟩)] w fun e w' => e = .returned (.bool b) ∧ w = w') := H1.out
  clear h ha hb H0 H1
  cases a with
  | false =>
    go_enter Tryz.func22, Tryz.ntmps22
    go_wp2_with fail
    refine HA.out.mono ?_
    rintro e w2 ⟨rfl, rfl⟩
    go_wp2_with fail
    go_ret
    exact ⟨rfl, rfl⟩
  | true =>
    go_enter Tryz.func22, Tryz.ntmps22
    go_wp2_with fail
    refine HA.out.mono ?_
    rintro e w2 ⟨rfl, rfl⟩
    go_wp2_with fail
    refine HB.out.mono ?_
    rintro e w2 ⟨rfl, rfl⟩
    go_wp2_with fail
    go_ret
    exact ⟨by first | rfl | simp, rfl⟩
end
end Go.Proofs.YtlnabpoohnphiaaGreat
