/- The laws QueueTwo and QueueRoom: the walks. -/
import Derived.Test.YtgbldgeknmkmmaaQo
namespace Go.Proofs.Ytgbldgeknmkmmaa
open Go.RowKit
set_option linter.unusedSimpArgs false
set_option linter.unusedVariables false

set_option maxHeartbeats 1600000 in
set_option maxRecDepth 100000 in
theorem two_row (w : World) (A : Option Addr) (l : List Ev) (c : Nat) (hr : Rd w A (evCells l)) (_ : ∀ x ∈ l, x.good) (h1 : l.length ≤ c) (h2 : c ≤ maxLen) :
    Calls Try.prog 6 #[.slice A l.length c] w fun e w' => e = .returned (.bool true) ∧ Touch NoS w w' := by
  have hlen : l.length ≤ 9223372036854775807 := by unfold maxLen at h2; omega
  clear h1 h2
  have HR := Lib.hid hr
  clear hr
  go_enter Try.func6, Try.ntmps6
  go_wp2_with fail
  refine (q_new (N := NoS) 5 100 _ (by omega) (by omega) (by omega) (by omega)).mono ?_
  rintro e w1 ⟨ga, rfl, hga, hq1, ht1⟩
  have HT := Lib.hid ht1
  have HQ := Lib.hid hq1
  clear ht1 hq1
  go_wp2_with fail
  refine (q_new (N := NoS) 3 50 _ (by omega) (by omega) (by omega) (by omega)).mono ?_
  rintro e w2 ⟨gb, rfl, hgb, hq2, ht2⟩
  have HQa := Lib.hid (HQ.out.no ht2)
  have HQb := Lib.hid hq2
  have HT2 := Lib.hid (HT.out.trans ht2)
  have hab : ga ≠ gb := by have := HQ.out.lt; omega
  have hgb0 : w.heap.size ≤ gb := by have := HT.out.size; omega
  clear ht2 hq2 HT HQ
  go_wp2_with fail
  refine (q_awake _).mono ?_
  rintro e w3 ⟨rfl, ht3⟩
  have HT3 := Lib.hid (HT2.out.trans ht3)
  have HQa3 := Lib.hid (HQa.out.no ht3)
  have HQb3 := Lib.hid (HQb.out.no ht3)
  clear ht3 HT2 HQa HQb
  by_cases h30 : 30 < l.length
  · go_wp2_with fail
    refine (q_awake _).mono ?_
    rintro e w4 ⟨rfl, ht4⟩
    have HT4 := Lib.hid (HT3.out.trans ht4)
    clear ht4
    go_wp2
    go_ret
    exact ⟨rfl, HT4.out⟩
  go_wp2_with fail
  go_loopw [7] (fun i wr => ∃ (k : Nat) (qa qb : Qm), k ≤ l.length ∧ i = .int .i64 k ∧ IsQ wr ga qa ∧ IsQ wr gb qb ∧ Touch NoS w wr)
    (fun i _ => l.length - (intOf i).toNat)
  case atStart => exact ⟨0, _, _, by omega, rfl, HQa3.out, HQb3.out, HT3.out⟩
  case round =>
    obtain ⟨k, qa, qb, hk, rfl, hqa, hqb, ht⟩ := hrel
    have HA := Lib.hid hqa
    have HB := Lib.hid hqb
    have HTk := Lib.hid ht
    clear hqa hqb ht HQa3 HQb3 HT3
    by_cases hlt : k < l.length
    · obtain ⟨e0, he0⟩ : ∃ e0, e0 = l[k] := ⟨_, rfl⟩
      obtain ⟨g, off, rfl, hg, c0, c1, c2⟩ := ev_cells (HR.out.touch_no HTk.out) k hlt
      rw [← he0] at c0 c1 c2
      have C0 := Lib.hid c0
      have C1 := Lib.hid c1
      have C2 := Lib.hid c2
      have He0 := Lib.hid he0
      have hs4 : e0.data.size ≤ 9223372036854775807 - 9000 ∨ 300 < e0.data.size := by omega
      clear he0
      by_cases hbig : 300 < e0.data.size
      · go_wp2_with fail
        go_ret
        exact ⟨rfl, HTk.out⟩
      · go_wp2_with fail
        refine (q_len gb qb _ HB.out).mono ?_
        rintro e w4 ⟨rfl, rfl⟩
        go_wp2_with fail
        refine (q_size gb qb _ HB.out).mono ?_
        rintro e w4 ⟨rfl, rfl⟩
        go_wp2_with fail
        refine (q_put ga qa e0 _ HA.out).mono ?_
        rintro e w4 ⟨rfl, hqa, ht4⟩
        have HT4 := Lib.hid (HTk.out.at_new ht4 hga)
        have HB4 := Lib.hid (HB.out.far ht4 HA.out (by omega))
        have HA4 := Lib.hid hqa
        have hc4 : (wr.heap.size : Nat) ≤ w4.heap.size := ht4.size
        clear hqa ht4 HA HB c0 c1 c2
        go_wp2_with fail
        refine (q_peek ga (qa.putI e0) _ HA4.out).mono ?_
        rintro e w5 ⟨rfl, ht5⟩
        have HT5 := Lib.hid (HT4.out.trans ht5)
        have HB5 := Lib.hid (HB4.out.no ht5)
        have HA5 := Lib.hid (HA4.out.no ht5)
        clear ht5 HA4 HB4
        unfold Ev.val
        go_wp2_with fail
        refine (q_peek ga (qa.putI e0) _ (HA5.out.no ((Touch.refl _ _).alloc _))).mono ?_
        rintro e w6 ⟨rfl, ht6⟩
        have HT6 := Lib.hid ((HT5.out.alloc _).trans ht6)
        have HA6 := Lib.hid (HA5.out.no (((Touch.refl _ _).alloc _).trans ht6))
        have HB6 := Lib.hid (HB5.out.no (((Touch.refl _ _).alloc _).trans ht6))
        have hx := (Blk.new w5 32 #[.int .i64 (qa.putI e0).hd.op, .int .i64 (qa.putI e0).hd.code, .string (qa.putI e0).hd.data]).touch ht6 (fun h => h)
        have x0 := hx.cell 0
        have x1 := hx.cell 1
        have x2 := hx.cell 2
        simp at x0 x1 x2
        have hz := hx.lt
        clear ht6 hx
        unfold Ev.val
        have hany := (qa.putI e0).any_eq
        have HAN := Lib.hid hany
        generalize hm : (qa.putI e0).hd = m at *
        generalize hp : (qa.putI e0) = p at *
        clear hm hp hany
        rw [HAN.out]
        have hga6 : ga < w6.heap.size := HA6.out.lt
        obtain ⟨hg6, c0, c1, c2⟩ := ev_cells_at (HR.out.touch_no HT6.out) k hlt
        rw [← He0.out] at c0 c1 c2
        by_cases hmod : ((k : Int) % 3 == 2) = true
        · go_wp2_with (first
            | (go_at_call_of 24 gb; refine (q_len gb qb _ (HB6.out.no ((Touch.refl _ _).alloc _))).mono ?_; rintro e w' ⟨rfl, rfl⟩)
            | (go_at_call 25; refine (q_size gb qb _ (HB6.out.no ((Touch.refl _ _).alloc _))).mono ?_; rintro e w' ⟨rfl, rfl⟩)
            | (go_at_call_of 24 ga; refine (q_len ga p _ (HA6.out.no ((Touch.refl _ _).alloc _))).mono ?_; rintro e w' ⟨rfl, rfl⟩))
          refine (q_put gb qb e0 _ (HB6.out.no ((Touch.refl _ _).alloc _))).mono ?_
          rintro e w7 ⟨rfl, hqb, ht7⟩
          have HT7 := Lib.hid ((HT6.out.alloc _).at_new ht7 hgb0)
          have HA7 := Lib.hid ((HA6.out.no ((Touch.refl _ _).alloc _)).far ht7 (HB6.out.no ((Touch.refl _ _).alloc _)) hab)
          have HB7 := Lib.hid hqb
          clear hqb ht7 HA6 HB6
          go_wp2_with fail
          refine (q_take ga p _ HA7.out).mono ?_
          rintro e w8 ⟨rfl, hqa, ht8⟩
          have HT8 := Lib.hid (HT7.out.at_new ht8 hga)
          have HB8 := Lib.hid (HB7.out.far ht8 HA7.out (by omega))
          have HA8 := Lib.hid hqa
          clear hqa ht8 HA7 HB7
          go_wp2_with fail
          go_roundw
          case rel => exact ⟨k + 1, _, _, by omega, by go_num, HA8.out, HB8.out, HT8.out⟩
          case measure => simp [intOf]; omega
        · have hmod' : ((k : Int) % 3 == 2) = false := by simpa using hmod
          clear hmod
          go_wp2_with (first
            | (go_at_call_of 24 gb; refine (q_len gb qb _ (HB6.out.no ((Touch.refl _ _).alloc _))).mono ?_; rintro e w' ⟨rfl, rfl⟩)
            | (go_at_call 25; refine (q_size gb qb _ (HB6.out.no ((Touch.refl _ _).alloc _))).mono ?_; rintro e w' ⟨rfl, rfl⟩)
            | (go_at_call_of 24 ga; refine (q_len ga p _ (HA6.out.no ((Touch.refl _ _).alloc _))).mono ?_; rintro e w' ⟨rfl, rfl⟩))
          go_roundw
          case rel => exact ⟨k + 1, _, _, by omega, by go_num, HA6.out.no ((Touch.refl _ _).alloc _), HB6.out.no ((Touch.refl _ _).alloc _), HT6.out.alloc _⟩
          case measure => simp [intOf]; omega
    · go_wp2
      go_ret
      exact ⟨rfl, HTk.out⟩
end Go.Proofs.Ytgbldgeknmkmmaa
