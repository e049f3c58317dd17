/- bridge: a session's methods: Lose, Tick, Take, Peek and what tells how it stands. | bridge: Lose, Take, Tick. | bridge: one frame, byte by byte; plain Lean. -/
import Derived.Test.YtlnabpoohnphiaaGreatB34
import Derived.Test.YtlnabpoohnphiaaGreatB30
/- bridge: a session's methods: Lose, Tick, Take, Peek and what tells how it stands. -/
namespace Go.Proofs.YtlnabpoohnphiaaGreat
open Go.RowKit
set_option linter.unusedSimpArgs false
set_option linter.unusedVariables false

section
variable {E : Nat → Prop} {w w' : World} {g : Nat} {X : Bx} {K : Bk} {gl gq : Bool → Nat} {B B' : Br}
set_option maxHeartbeats 3200000 in
set_option maxRecDepth 100000 in
theorem b_has (i : Int) (w : World) : Calls Tryz.prog 36 #[.int .i64 i] w fun e w' => e = .returned (.bool (decide (i = 0 ∨ i = 1))) ∧ w = w' := by
  by_cases h0 : i = 0
  · subst h0
    go_enter Tryz.func36, Tryz.ntmps36
    go_wp2_with fail
    go_ret
    exact ⟨rfl, rfl⟩
  · by_cases h1 : i = 1
    · subst h1
      go_enter Tryz.func36, Tryz.ntmps36
      go_wp2_with fail
      go_ret
      exact ⟨rfl, rfl⟩
    · rw [decide_eq_false (by omega)]
      have q0 : (i == 0) = false := by rw [beq_eq_false_iff_ne]; exact h0
      have q1 : (i == 1) = false := by rw [beq_eq_false_iff_ne]; exact h1
      go_enter Tryz.func36, Tryz.ntmps36
      go_wp2_with fail
      go_ret
      exact ⟨by first | rfl | simp [q1], rfl⟩
theorem has_i (i : Bool) (w : World) : Calls Tryz.prog 36 #[.int .i64 i.toNat] w fun e w' => e = .returned (.bool true) ∧ w = w' := by
  have := b_has (i.toNat : Int) w
  rw [decide_eq_true (by cases i <;> simp)] at this
  exact this
theorem has_no {i : Int} (h0 : i ≠ 0) (h1 : i ≠ 1) (w : World) : Calls Tryz.prog 36 #[.int .i64 i] w fun e w' => e = .returned (.bool false) ∧ w = w' := by
  have := b_has i w
  rw [decide_eq_false (by omega)] at this
  exact this
/-- What a side's cells hold. -/
theorem side_cells (h : IsB E w g X K gl gq B) (i : Bool) (j : Nat) (hj : i.toNat = j) :
    w.cell? ⟨g, 12 + j * 7, none⟩ = some (.pointer (some ⟨gl i, 0, none⟩)) ∧ w.cell? ⟨g, 12 + j * 7 + 1, none⟩ = some (.pointer (some ⟨gq i, 0, none⟩)) ∧ w.cell? ⟨g, 12 + j * 7 + 2, none⟩ = some (.bool (B i).lost) ∧ w.cell? ⟨g, 12 + j * 7 + 3, none⟩ = some (.int .i64 (B i).last) ∧
      w.cell? ⟨g, 12 + j * 7 + 4, none⟩ = some (.int .i64 (B i).heard) ∧ w.cell? ⟨g, 12 + j * 7 + 5, none⟩ = some (.bool (B i).asked) ∧ w.cell? ⟨g, 12 + j * 7 + 6, none⟩ = some (.int .i64 (B i).ending) ∧ g < w.heap.size := by
  subst hj
  refine ⟨?_, ?_, ?_, ?_, ?_, ?_, ?_, h.blk.lt⟩
  all_goals rw [h.blk.cell]; cases i <;> rfl
theorem i_lt (i : Bool) : (i.toNat : Int) < 2 := by cases i <;> decide
set_option maxHeartbeats 3200000 in
set_option maxRecDepth 100000 in
theorem b_lost (h : IsB E w g X K gl gq B) (i : Bool) : Calls Tryz.prog 24 #[.pointer (some ⟨g, 0, none⟩), .int .i64 i.toNat] w fun e w' => e = .returned (.bool (B i).lost) ∧ w = w' := by
  have HH := Lib.hid (fun W => has_i i W)
  obtain ⟨-, -, c2, -, -, -, -, cl⟩ := side_cells h i _ rfl
  have hil := i_lt i
  obtain ⟨j, hj⟩ : ∃ j, j = i.toNat := ⟨_, rfl⟩
  rw [← hj] at HH c2 hil ⊢
  clear h hj
  go_enter Tryz.func24, Tryz.ntmps24
  go_wp2_with fail
  refine (HH.out _).mono ?_
  rintro e w2 ⟨rfl, rfl⟩
  go_wp2_with fail
  go_ret
  exact ⟨by first | rfl | simp, rfl⟩
set_option maxHeartbeats 3200000 in
set_option maxRecDepth 100000 in
theorem b_lost_no {i : Int} (h0 : i ≠ 0) (h1 : i ≠ 1) (w : World) : Calls Tryz.prog 24 #[.pointer (some ⟨g, 0, none⟩), .int .i64 i] w fun e w' => e = .returned (.bool false) ∧ w = w' := by
  have HH := Lib.hid (fun W => has_no h0 h1 W)
  clear h0 h1
  go_enter Tryz.func24, Tryz.ntmps24
  go_wp2_with fail
  refine (HH.out _).mono ?_
  rintro e w2 ⟨rfl, rfl⟩
  go_wp2_with fail
  go_ret
  exact ⟨rfl, rfl⟩
set_option maxHeartbeats 3200000 in
set_option maxRecDepth 100000 in
theorem b_waiting (h : IsB E w g X K gl gq B) (i : Bool) : Calls Tryz.prog 30 #[.pointer (some ⟨g, 0, none⟩), .int .i64 i.toNat] w fun e w' => e = .returned (.tuple #[.int .i64 (B i).q.length, .int .i64 (evSize (B i).q)]) ∧ Touch NoS w w' := by
  have HH := Lib.hid (fun W => has_i i W)
  obtain ⟨-, c1, -, -, -, -, -, cl⟩ := side_cells h i _ rfl
  have hil := i_lt i
  obtain ⟨ln, hln⟩ : ∃ x, x = (B i).q.length := ⟨_, rfl⟩
  obtain ⟨sz, hsz⟩ : ∃ x, x = evSize (B i).q := ⟨_, rfl⟩
  obtain ⟨j, hj⟩ : ∃ j, j = i.toNat := ⟨_, rfl⟩
  obtain ⟨qi, hqi⟩ : ∃ x, x = gq i := ⟨_, rfl⟩
  have HL : Hid (∀ W, Touch NoS w W → Calls Tryz.prog 51 #[.pointer (some ⟨qi, 0, none⟩)] W fun e w' => e = .returned (.int .i64 ln) ∧ W = w') := fun W t => by
    rw [hqi, hln]
    exact q_len (gq i) _ W ((h.q i).no t)
  have HZ : Hid (∀ W, Touch NoS w W → Calls Tryz.prog 52 #[.pointer (some ⟨qi, 0, none⟩)] W fun e w' => e = .returned (.int .i64 sz) ∧ W = w') := fun W t => by
    rw [hqi, hsz]
    exact q_size (gq i) _ W ((h.q i).no t)
  rw [← hj] at HH c1 hil ⊢
  rw [← hqi] at c1
  rw [← hln, ← hsz]
  clear h hj hqi hln hsz
  go_enter Tryz.func30, Tryz.ntmps30
  go_wp2_with fail
  refine (HH.out _).mono ?_
  rintro e w2 ⟨rfl, rfl⟩
  go_wp2_with fail
  have m1 : w.drew.cell? ⟨g, 12 + j * 7 + 1, none⟩ = some (.pointer (some ⟨qi, 0, none⟩)) := c1
  have mt : Touch NoS w w.drew := (Touch.refl _ _).drew
  go_region_held3 (fun w' => w'.cell? ⟨g, 12 + j * 7 + 1, none⟩ = some (.pointer (some ⟨qi, 0, none⟩)))
    (first | exact m1)
    (first
      | (go_at_call 51; refine (HL.out _ mt).mono ?_; rintro e w5 ⟨rfl, rfl⟩)
      | (go_at_call 52; refine (HZ.out _ mt).mono ?_; rintro e w5 ⟨rfl, rfl⟩))
  all_goals
    go_wp2_with fail
    go_ret2
    exact ⟨rfl, mt⟩
set_option maxHeartbeats 3200000 in
set_option maxRecDepth 100000 in
theorem b_leg (h : IsB E w g X K gl gq B) (i : Bool) : Calls Tryz.prog 20 #[.pointer (some ⟨g, 0, none⟩), .int .i64 i.toNat] w fun e w' => e = .returned (.tuple #[.bool (B i).leg.sent, .bool (B i).leg.got, .int .i64 (B i).leg.wrong]) ∧ w = w' := by
  have HH := Lib.hid (fun W => has_i i W)
  obtain ⟨c0, -, -, -, -, -, -, cl⟩ := side_cells h i _ rfl
  obtain ⟨w0, hsd⟩ := h.side i
  have H1 := Lib.hid (lg_sent hsd)
  have H2 := Lib.hid (lg_got hsd)
  have H3 := Lib.hid (lg_wrong hsd)
  have hil := i_lt i
  obtain ⟨j, hj⟩ : ∃ j, j = i.toNat := ⟨_, rfl⟩
  obtain ⟨li, hli⟩ : ∃ x, x = gl i := ⟨_, rfl⟩
  rw [← hj] at HH c0 hil ⊢
  rw [← hli] at c0 H1 H2 H3
  clear h hj hli hsd
  go_enter Tryz.func20, Tryz.ntmps20
  go_wp2_with fail
  refine (HH.out _).mono ?_
  rintro e w2 ⟨rfl, rfl⟩
  go_wp2_with fail
  refine H1.out.mono ?_
  rintro e w2 ⟨rfl, rfl⟩
  go_wp2_with fail
  refine H2.out.mono ?_
  rintro e w2 ⟨rfl, rfl⟩
  go_wp2_with fail
  refine H3.out.mono ?_
  rintro e w2 ⟨rfl, rfl⟩
  go_wp2_with fail
  refine bodyPost_ret (v := .tuple #[.bool (B i).leg.sent, .bool (B i).leg.got, .int .i64 (B i).leg.wrong]) (by simp [results, Tryz.results20, go_sem]) rfl ⟨rfl, rfl⟩
set_option maxHeartbeats 3200000 in
set_option maxRecDepth 100000 in
theorem b_peek (h : IsB E w g X K gl gq B) (i : Bool) (n : Int) : Calls Tryz.prog 16 #[.pointer (some ⟨g, 0, none⟩), .int .i64 i.toNat, .int .i64 n] w fun e w' => ∃ A c, e = .returned (.slice A (outB (B i) n).length c) ∧ Rd w' A (u8s (outB (B i) n)) ∧ Touch NoS w w' := by
  have HH := Lib.hid (fun W => has_i i W)
  obtain ⟨c0, -, c2, -, -, -, -, cl⟩ := side_cells h i _ rfl
  obtain ⟨w0, hsd⟩ := h.side i
  have HP := Lib.hid (lg_peek hsd n)
  have hil := i_lt i
  have hpl : ((B i).leg.o.ring.take (pk n (B i).leg.o.ring.length)).length = pk n (B i).leg.o.ring.length := by rw [List.length_take, Nat.min_eq_left (pk_le _ _)]
  obtain ⟨ob, hob⟩ : ∃ x, x = outB (B i) n := ⟨_, rfl⟩
  rw [← hob]
  unfold outB at hob
  obtain ⟨lost, hlost⟩ : ∃ x, x = (B i).lost := ⟨_, rfl⟩
  obtain ⟨tk, htk⟩ : ∃ x, x = (B i).leg.o.ring.take (pk n (B i).leg.o.ring.length) := ⟨_, rfl⟩
  obtain ⟨pn, hpn⟩ : ∃ x, x = pk n (B i).leg.o.ring.length := ⟨_, rfl⟩
  rw [← hlost, ← htk] at hob
  rw [← hlost] at c2
  rw [← htk, ← hpn] at hpl
  have HP2 : Hid (Calls Tryz.prog 37 #[.pointer (some ⟨gl i, 0, none⟩), .int .i64 n] w fun e w' => ∃ g2, e = .returned (.slice (some ⟨g2, 0, none⟩) pn pn) ∧ Blk w' g2 5 (u8s tk).toArray ∧ Touch NoS w w') := by
    refine HP.out.mono ?_
    rintro e w' ⟨g2, rfl, -, hb, ht⟩
    rw [htk, hpn]
    exact ⟨g2, rfl, hb, ht⟩
  obtain ⟨j, hj⟩ : ∃ j, j = i.toNat := ⟨_, rfl⟩
  obtain ⟨li, hli⟩ : ∃ x, x = gl i := ⟨_, rfl⟩
  rw [← hj] at HH c0 c2 hil ⊢
  rw [← hli] at c0 HP2
  have HPL := Lib.hid hpl
  clear h hj hli hsd HP hlost htk hpn hpl
  cases lost with
  | true =>
    have HOB := Lib.hid (hob.trans (if_pos rfl))
    clear hob
    go_enter Tryz.func16, Tryz.ntmps16
    go_wp2_with fail
    refine (HH.out _).mono ?_
    rintro e w2 ⟨rfl, rfl⟩
    go_wp2_with fail
    go_ret
    rw [HOB.out]
    exact ⟨none, 0, rfl, fun h => absurd rfl h, Touch.refl _ _⟩
  | false =>
    have HOB := Lib.hid (hob.trans (if_neg (by simp)))
    clear hob
    go_enter Tryz.func16, Tryz.ntmps16
    go_wp2_with fail
    refine (HH.out _).mono ?_
    rintro e w2 ⟨rfl, rfl⟩
    go_wp2_with fail
    refine HP2.out.mono ?_
    rintro e w2 ⟨g2, rfl, hb, ht⟩
    have HB := Lib.hid (Blk.rd_all hb)
    have HT := Lib.hid ht
    clear hb ht
    go_wp2_with fail
    go_ret
    rw [HOB.out, HPL.out]
    exact ⟨_, _, rfl, HB.out, HT.out⟩
end
end Go.Proofs.YtlnabpoohnphiaaGreat
/- bridge: Lose, Take, Tick. -/
namespace Go.Proofs.YtlnabpoohnphiaaGreat
open Go.RowKit
set_option linter.unusedSimpArgs false
set_option linter.unusedVariables false

section
variable {E : Nat → Prop} {w w' : World} {g : Nat} {X : Bx} {K : Bk} {gl gq : Bool → Nat} {B B' : Br}
theorem Sett.start (h : IsB E w g X K gl gq B) : Sett E w w g X K gl gq B := ⟨h, Touch.refl _ _, ByT.no (Touch.refl _ _)⟩
/-- A cell of a side is written. -/
theorem Sett.store {w0 : World} (h : Sett E w0 w g X K gl gq B) (i : Bool) (k j : Nat) (hj : i.toNat = j) (v : Value) (s : Sd) (hc : (brC X K gl gq B).setIfInBounds (so i + k) v = brC X K gl gq (B.set i s)) (hl : s.leg = (B i).leg) (hq : s.q = (B i).q) :
    Sett E w0 (w.setCell ⟨g, 12 + j * 7 + k, none⟩ v) g X K gl gq (B.set i s) := by
  subst hj
  have ht : Touch (At g) w (w.setCell ⟨g, 12 + i.toNat * 7 + k, none⟩ v) := (Touch.refl (At g) w).setAt _ _
  have hb2 := h.is.blk.set_ (so i + k) v
  refine h.trans (h.is.put ?_ ht (fun m => ?_) (fun m => ?_)) (ht.mono fun b (hb : b = g) => by subst hb; exact h.is.new) (ByT.at_ (T := BrT) ht h.is.blk (.inr (.inr rfl)))
  · rw [← hc]
    exact hb2
  · unfold Br.set
    split
    · rename_i e; rw [e]; exact hl
    · rfl
  · unfold Br.set
    split
    · rename_i e; rw [e]; exact hq
    · rfl
theorem Sett.end_ {w0 : World} (h : Sett E w0 w g X K gl gq B) (i : Bool) (j : Nat) (hj : i.toNat = j) (code : Int) : Calls Tryz.prog 61 #[.pointer (some ⟨g, 12 + j * 7, none⟩), .int .i64 code] w fun e w' => e = .returned (.tuple #[]) ∧ Sett E w0 w' g X K gl gq (B.set i ((B i).end_ code)) := by
  subst hj
  refine (s_end h.is i code).mono ?_
  rintro e w' ⟨rfl, h1, ht⟩
  exact ⟨rfl, h.trans h1 (ht.mono fun b (hb : b = g) => by subst hb; exact h.is.new) (ByT.at_ (T := BrT) ht h.is.blk (.inr (.inr rfl)))⟩
theorem other_nat (i : Bool) : i.toNat + (!i).toNat = 1 := by cases i <;> rfl
set_option maxHeartbeats 6400000 in
set_option maxRecDepth 100000 in
theorem b_lose1 {w0 : World} (h : Sett E w0 w g X K gl gq B) (i : Bool) (j : Nat) (hj : i.toNat = j) : Calls Tryz.prog 49 #[.pointer (some ⟨g, 0, none⟩), .int .i64 j] w fun e w' => e = .returned (.tuple #[]) ∧ Sett E w0 w' g X K gl gq (B.lose1 i) := by
  have hil : (j : Int) < 2 := by rw [← hj]; exact i_lt i
  obtain ⟨j', hj'⟩ : ∃ x, x = (!i).toNat := ⟨_, rfl⟩
  have hjj : j + j' = 1 := by rw [hj', ← hj]; exact other_nat i
  have hil' : (j' : Int) < 2 := by omega
  have hw1 : IntKind.i64.wrap (1 - (j : Int)) = (j' : Int) := by rw [IntWalk.i64_in _ (by omega)]; omega
  obtain ⟨-, -, c2, -, -, -, -, cl⟩ := side_cells h.is i j hj
  have hfz := h.is.blk.frozen (12 + j * 7 + 2)
  have hs1 := h.store i 2 j hj (.bool true) { B i with lost := true } (by cases i <;> rfl) rfl rfl
  have HS1 := Lib.hid hs1
  have HEN : Hid (∀ W, Touch NoS (w.setCell ⟨g, 12 + j * 7 + 2, none⟩ (.bool true)) W → Calls Tryz.prog 61 #[.pointer (some ⟨g, 12 + j' * 7, none⟩), .int .i64 (across11 1006)] W fun e w' => e = .returned (.tuple #[]) ∧ Sett E w0 w' g X K gl gq (B.lose1 i)) := fun W t => by
    have := (HS1.out.no t).end_ (!i) j' hj'.symm (across11 1006)
    rw [Br.set_other] at this
    exact this
  have HAC := Lib.hid (fun W => c_across 1006 W)
  clear h hs1 hj hj'
  go_enter Tryz.func49, Tryz.ntmps49
  go_wp2_with fail
  obtain ⟨w1, hw1'⟩ : ∃ x, x = w.setCell ⟨g, 12 + j * 7 + 2, none⟩ (.bool true) := ⟨_, rfl⟩
  rw [← hw1'] at HS1 HEN ⊢
  clear hw1' c2 hfz
  go_region_with (first
    | (go_at_call 62; refine (HAC.out _).mono ?_; rintro e w5 ⟨rfl, ht5⟩; have HT5 := Lib.hid ((Touch.refl NoS w1).drew.trans ht5); clear ht5)
    | (go_at_call 61; refine (HEN.out _ HT5.out).mono ?_; rintro e w6 ⟨rfl, hs6⟩; have HS6 := Lib.hid hs6; clear hs6))
  all_goals
    go_wp2_with fail
    go_end0
    exact ⟨rfl, HS6.out⟩
set_option maxHeartbeats 6400000 in
set_option maxRecDepth 100000 in
theorem b_lose (h : IsB E w g X K gl gq B) {n : Nat} {t : Int} (hI : BrI K n t B) (hK : Kfits K) (hn : n ≤ 100000) (i : Bool) : Calls Tryz.prog 26 #[.pointer (some ⟨g, 0, none⟩), .int .i64 i.toNat] w fun e w' => e = .returned (.tuple #[]) ∧ Sett E w w' g X K gl gq (B.lose K i) := by
  have HH := Lib.hid (fun W => has_i i W)
  have HL := Lib.hid (b_lose1 (Sett.start h) i _ rfl)
  have HI := Lib.hid (hI.lose1 i)
  have HK := Lib.hid hK
  clear h hI hK
  go_enter Tryz.func26, Tryz.ntmps26
  go_wp2_with fail
  refine (HH.out _).mono ?_
  rintro e w2 ⟨rfl, rfl⟩
  go_wp2_with fail
  refine HL.out.mono ?_
  rintro e w3 ⟨rfl, hs3⟩
  have HS3 := Lib.hid hs3
  have HSE := Lib.hid (b_settle hs3.is HI.out HK.out hn)
  clear hs3
  go_wp2_with fail
  refine HSE.out.mono ?_
  rintro e w4 ⟨rfl, hs4⟩
  have HS4 := Lib.hid (HS3.out.trans hs4.is hs4.touch hs4.byT)
  clear hs4
  go_wp2_with fail
  go_end0
  exact ⟨rfl, HS4.out⟩
set_option maxHeartbeats 6400000 in
set_option maxRecDepth 100000 in
theorem b_lose_no {i : Int} (h0 : i ≠ 0) (h1 : i ≠ 1) (w : World) : Calls Tryz.prog 26 #[.pointer (some ⟨g, 0, none⟩), .int .i64 i] w fun e w' => e = .returned (.tuple #[]) ∧ w = w' := by
  have HH := Lib.hid (fun W => has_no h0 h1 W)
  clear h0 h1
  go_enter Tryz.func26, Tryz.ntmps26
  go_wp2_with fail
  refine (HH.out _).mono ?_
  rintro e w2 ⟨rfl, rfl⟩
  go_wp2_with fail
  go_end0
  exact ⟨rfl, rfl⟩
end
end Go.Proofs.YtlnabpoohnphiaaGreat
/- bridge: one frame, byte by byte; plain Lean. -/
namespace Go.Proofs.YtlnabpoohnphiaaGreat
open Go.RowKit
set_option linter.unusedSimpArgs false
set_option linter.unusedVariables false

theorem scan_rest {mk : Bool} {most : Int} {l : List Int} (hb : bytesIn l) (hl : l.length ≤ maxLen) (h1 : (scan mk most l).1 = []) (h2 : (scan mk most l).2.2 = 0) : scan mk most l = ([], l, 0) := by
  have he := scan_eq mk most l hb hl
  rw [he] at h1 h2 ⊢
  split
  · rename_i h
    rw [if_pos h] at h1
    cases h1
  split
  · rfl
  · rename_i h h3
    rw [if_neg h, if_neg h3] at h2
    exact absurd h2 h
/-- A beginning of one frame's bytes is no frame yet. -/
theorem scan_strict {mk : Bool} {most : Int} (hm : 0 ≤ most) {f : Fr} (hf : fits mk most f) (p q : List Int) (h : p ++ q = fput f) (hq : q ≠ []) (hl : (fput f).length ≤ maxLen) : scan mk most p = ([], p, 0) := by
  obtain ⟨s1, s2⟩ := scan_begin hf p q h hl
  have hb := fits_in [f] (fun g hg => by simp at hg; rw [hg]; exact hf)
  simp only [List.flatMap_cons, List.flatMap_nil, List.append_nil] at hb
  have hbp : bytesIn p := fun x hx => hb x (by rw [← h]; exact List.mem_append_left _ hx)
  have hlp : p.length ≤ maxLen := by rw [← h, List.length_append] at hl; omega
  refine scan_rest hbp hlp ?_ s1
  rcases s2 with s2 | s2
  · exact s2
  · exfalso
    obtain ⟨-, -, -, h4⟩ := scan_facts mk most hm p.length p (Nat.le_refl _) hbp hlp
    rw [s2] at h4
    have hs : slen [f] = (fput f).length := by unfold slen; simp
    rw [hs, ← h, List.length_append] at h4
    have := List.length_pos_iff.2 hq
    omega
section
variable {k : Lk} {L : Lg} {f : Fr}
theorem feed_strict (hd : L.down = false) (hf : fits (!k.masks) (most16 k) f) (hp : L.part = []) (p q : List Int) (h : p ++ q = fput f) (hq : q ≠ []) (hl : (fput f).length ≤ maxLen) (a b : List Int) (hab : a ++ b = p) : (L.setp a 0).feed k b = (L.setp p 0, []) := by
  have hs := scan_strict (by unfold most16; omega) hf p q h hq hl
  have := Lg.feed_by (k := k) (L := L.setp a 0) hd (b := b) (fs := []) (p := p) (e := 0) (by show scan _ _ (a ++ b) = _; rw [hab]; exact hs)
  rw [this]
  rfl
theorem feed_last (hd : L.down = false) (hf : fits (!k.masks) (most16 k) f) (hp : L.part = []) (p q : List Int) (h : p ++ q = fput f) (hl : (fput f).length ≤ maxLen) : (L.setp p 0).feed k q = L.feed k (fput f) := by
  have hs := scan_puts [f] (fun g hg => by simp at hg; rw [hg]; exact hf) (by simpa using hl)
  simp only [List.flatMap_cons, List.flatMap_nil, List.append_nil] at hs
  have h1 := Lg.feed_by (k := k) (L := L.setp p 0) hd (b := q) (fs := [f]) (p := []) (e := 0) (by show scan _ _ (p ++ q) = _; rw [h]; exact hs)
  have h2 := Lg.feed_by (k := k) (L := L) hd (b := fput f) (fs := [f]) (p := []) (e := 0) (by rw [hp, List.nil_append]; exact hs)
  rw [h1, h2]
  rfl
end
/-- Nothing waits, and nobody ended. -/
structure Calm (B : Br) : Prop where
  lost : ∀ j, (B j).lost = false
  sent : ∀ j, (B j).leg.sent = false
  q : ∀ j, (B j).q = []
  last : ∀ j, (B j).last = -1
section
variable {K : Bk} {B : Br} {i : Bool}
theorem Calm.settle (h : Calm B) : B.settle K = B := by
  funext j
  have hs : ∀ j, settle1 (K.k j) (B j).lost (B j).last (B j).leg (B (!j)).q = ((B j).leg, []) := fun j => by
    unfold settle1
    rw [h.q, h.last, if_neg (by rw [h.lost, h.sent]; simp), if_neg (by rintro ⟨h, -⟩; exact absurd h (by decide))]
    rfl
  show ({ B j with leg := (settle1 (K.k j) (B j).lost (B j).last (B j).leg (B (!j)).q).1, q := (settle1 (K.k (!j)) (B (!j)).lost (B (!j)).last (B (!j)).leg (B j).q).2 } : Sd) = B j
  rw [hs j]
  have h2 := hs (!j)
  rw [Bool.not_not] at h2
  rw [h2]
  have := h.q j
  rcases hb : B j with ⟨a, b, c, d, e, f, g⟩
  rw [hb] at this
  have h3 : b = [] := this
  rw [h3]
theorem Calm.set (h : Calm B) (i : Bool) {s : Sd} (h1 : s.lost = false) (h2 : s.leg.sent = false) (h3 : s.q = []) (h4 : s.last = -1) : Calm (B.set i s) := by
  refine ⟨fun j => ?_, fun j => ?_, fun j => ?_, fun j => ?_⟩
  all_goals
    rw [Br.set_at]
    split
  · exact h1
  · exact h.lost j
  · exact h2
  · exact h.sent j
  · exact h3
  · exact h.q j
  · exact h4
  · exact h.last j
theorem Br.set_set (B : Br) (i : Bool) (s u : Sd) : (B.set i s).set i u = B.set i u := by
  funext j
  simp only [Br.set_at]
  split <;> rfl
/-- A side that heard so many bytes of a frame. -/
def Br.heardP (B : Br) (i : Bool) (p : List Int) : Br := B.set i { B i with heard := 0, asked := false, leg := (B i).leg.setp p 0 }
theorem hear_strict (h : Calm B) (hd : (B i).leg.down = false) {f : Fr} (hf : fits (!(K.k i).masks) (most16 (K.k i)) f) (hp : (B i).leg.part = []) (p q : List Int) (c : Int) (hpq : p ++ [c] ++ q = fput f) (hq : q ≠ []) (hl : (fput f).length ≤ maxLen) :
    (B.heardP i p).hear K i c = B.heardP i (p ++ [c]) := by
  have hfd := feed_strict (k := K.k i) (L := (B i).leg) hd hf hp (p ++ [c]) q hpq hq hl p [c] rfl
  unfold Br.hear Br.hearL
  have h1 : (B.heardP i p) i = { B i with heard := 0, asked := false, leg := (B i).leg.setp p 0 } := Br.set_same _ _ _
  rw [h1]
  simp only [hfd, List.foldl_nil]
  have hw : ((B i).leg.setp (p ++ [c]) 0).wrong = 0 := by
    unfold Lg.down at hd
    simp at hd
    exact hd.2
  rw [if_neg (by rw [hw]; simp)]
  unfold Br.heardP
  rw [Br.set_set]
  exact Calm.settle (h.set i (h.lost i) (h.sent i) (h.q i) (h.last i))
theorem hear_last (h : Calm B) (hd : (B i).leg.down = false) {f : Fr} (hf : fits (!(K.k i).masks) (most16 (K.k i)) f) (hp : (B i).leg.part = []) (p : List Int) (c : Int) (hpq : p ++ [c] = fput f) (hl : (fput f).length ≤ maxLen) :
    (B.heardP i p).hear K i c = B.hearL K i (fput f) := by
  have hfd := feed_last (k := K.k i) (L := (B i).leg) hd hf hp p [c] hpq hl
  unfold Br.hear Br.hearL
  have h1 : (B.heardP i p) i = { B i with heard := 0, asked := false, leg := (B i).leg.setp p 0 } := Br.set_same _ _ _
  rw [h1]
  simp only [hfd]
  unfold Br.heardP
  rw [Br.set_set]
/-- A whole frame, byte by byte. -/
theorem feed_frame (h : Calm B) (hd : (B i).leg.down = false) {f : Fr} (hf : fits (!(K.k i).masks) (most16 (K.k i)) f) (hp : (B i).leg.part = []) (hl : (fput f).length ≤ maxLen) (h0 : fput f ≠ []) (hr : roomL K [] K.message = true) :
    Br.feedN K i (fput f) (B.heardP i []) = (B.hearL K i (fput f), (fput f).length) := by
  have key : ∀ (q p : List Int) (c : Int), p ++ q ++ [c] = fput f → Br.feedN K i (q ++ [c]) (B.heardP i p) = (B.hearL K i (fput f), q.length + 1) := by
    intro q
    induction q with
    | nil =>
      intro p c hpq
      rw [List.append_nil] at hpq
      have h1 := hear_last h hd hf hp p c hpq hl
      have hdf : (B.heardP i p i).deaf = false := by
        unfold Br.heardP
        rw [Br.set_same]
        unfold Sd.deaf
        rw [show ({ B i with heard := 0, asked := false, leg := (B i).leg.setp p 0 } : Sd).lost = false from h.lost i, show (({ B i with heard := 0, asked := false, leg := (B i).leg.setp p 0 } : Sd).leg).down = false from hd]
        rfl
      have hq : (B.heardP i p i).q = [] := by unfold Br.heardP; rw [Br.set_same]; exact h.q i
      show Br.feedN K i [c] (B.heardP i p) = _
      unfold Br.feedN
      rw [if_pos ⟨hdf, by rw [hq]; exact hr⟩, h1]
      rfl
    | cons x q ih =>
      intro p c hpq
      have hdf : (B.heardP i p i).deaf = false := by
        unfold Br.heardP
        rw [Br.set_same]
        unfold Sd.deaf
        rw [show ({ B i with heard := 0, asked := false, leg := (B i).leg.setp p 0 } : Sd).lost = false from h.lost i, show (({ B i with heard := 0, asked := false, leg := (B i).leg.setp p 0 } : Sd).leg).down = false from hd]
        rfl
      have hq : (B.heardP i p i).q = [] := by unfold Br.heardP; rw [Br.set_same]; exact h.q i
      have h1 := hear_strict h hd hf hp p (q ++ [c]) x (by rw [← hpq]; simp only [List.append_assoc, List.cons_append, List.nil_append]) (by simp) hl
      show Br.feedN K i (x :: (q ++ [c])) (B.heardP i p) = _
      unfold Br.feedN
      rw [if_pos ⟨hdf, by rw [hq]; exact hr⟩, h1, ih (p ++ [x]) c (by rw [← hpq]; simp only [List.append_assoc, List.cons_append, List.nil_append])]
      rfl
  have hne := List.dropLast_concat_getLast h0
  have := key (fput f).dropLast [] ((fput f).getLast h0) (by rw [List.nil_append]; exact hne)
  rw [hne] at this
  rw [this, List.length_dropLast]
  have := List.length_pos_iff.2 h0
  exact Prod.ext rfl (by show (fput f).length - 1 + 1 = _; omega)
end
end Go.Proofs.YtlnabpoohnphiaaGreat
