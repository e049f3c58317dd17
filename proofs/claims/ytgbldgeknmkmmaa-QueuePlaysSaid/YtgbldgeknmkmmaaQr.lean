/- The law QueueRoom: the walk. -/
import Derived.Test.YtgbldgeknmkmmaaQo
namespace Go.Proofs.Ytgbldgeknmkmmaa
open Go.RowKit
set_option linter.unusedSimpArgs false
set_option linter.unusedVariables false

theorem putI_count (q : Qm) (e : Ev) : (q.putI e).count = q.count := by unfold Qm.putI; split <;> rfl
theorem putI_bytes (q : Qm) (e : Ev) : (q.putI e).bytes = q.bytes := by unfold Qm.putI; split <;> rfl

def Qm.ok (q : Qm) : Prop := (q.l.length : Int) ≤ q.count ∧ (evSize q.l : Int) ≤ q.bytes
theorem Qm.ok.putI {q : Qm} (h : q.ok) (e : Ev) : (q.putI e).ok := by
  unfold Qm.putI
  split
  · rename_i hr
    simp [Qm.room_eq] at hr
    constructor
    · simp [Qm.put]; omega
    · simp [Qm.put, evSize_append, evSize] at hr ⊢; omega
  · exact h
theorem Qm.tl_facts {q : Qm} (h : q.ok) (hp : 0 < q.l.length) : (q.tl.l.length : Int) = (q.l.length : Int) - 1 ∧ (evSize q.tl.l : Int) = (evSize q.l : Int) - q.hd.data.size ∧ q.tl.room q.hd.data.size = true := by
  obtain ⟨h1, h2⟩ := h
  rcases hl : q.l with _ | ⟨e, l⟩
  · rw [hl] at hp; simp at hp
  · rw [hl] at h1 h2
    have e1 : evSize (e :: l) = e.data.size + evSize l := by simp [evSize]
    rw [e1] at h2
    simp only [List.length_cons] at h1
    refine ⟨by simp [Qm.tl, hl], by simp [Qm.tl, Qm.hd, hl, e1]; omega, ?_⟩
    simp [Qm.room_eq, Qm.tl, Qm.hd, hl]
    omega

set_option maxHeartbeats 4000000 in
set_option maxRecDepth 100000 in
theorem room_row (w : World) (n : Int) (hn : (Lit.int .u8 n).wf = true) (m : Int) (hm : (Lit.int .u16 m).wf = true) (A : Option Addr) (l : List Ev) (c : Nat) (hr : Rd w A (evCells l)) (_ : ∀ x ∈ l, x.good) (h1 : l.length ≤ c) (h2 : c ≤ maxLen)
    (a : Int) (ha : (Lit.int .i64 a).wf = true) (b : Int) (hb : (Lit.int .i64 b).wf = true) :
    Calls Try.prog 5 #[.int .u8 n, .int .u16 m, .slice A l.length c, .int .i64 a, .int .i64 b] w fun e w' => e = .returned (.bool true) ∧ Touch NoS w w' := by
  have hlen : l.length ≤ 9223372036854775807 := by unfold maxLen at h2; omega
  obtain ⟨bn0, bn1⟩ := bounds_u8 hn
  obtain ⟨bm0, bm1⟩ := bounds_u16 hm
  obtain ⟨ba0, ba1⟩ := bounds_i64 ha
  obtain ⟨bb0, bb1⟩ := bounds_i64 hb
  have HR := Lib.hid hr
  clear hr h1 h2 hn hm ha hb
  go_enter Try.func5, Try.ntmps5
  go_wp2_with fail
  refine (q_new (N := NoS) (1 + n) (1 + m) _ (by omega) (by omega) (by omega) (by omega)).mono ?_
  rintro e w1 ⟨g, rfl, hg, hq1, ht1⟩
  have HT := Lib.hid ht1
  have HQ := Lib.hid hq1
  clear ht1 hq1
  go_wp2_with fail
  refine (q_awake _).mono ?_
  rintro e w2 ⟨rfl, ht2⟩
  have HT2 := Lib.hid (HT.out.trans ht2)
  have HQ2 := Lib.hid (HQ.out.no ht2)
  clear ht2 HT HQ
  have done : Hid (∀ W, Touch NoS w W → Calls Try.prog 16 #[] W fun e w' => e = .returned (.bool true) ∧ Touch NoS w w') := fun W hW => (q_awake W).mono fun e w' ⟨h1, h2⟩ => ⟨h1, hW.trans h2⟩
  by_cases h30 : 30 < l.length
  · go_wp2_with fail
    refine (done.out _ HT2.out).mono ?_
    rintro e w3 ⟨rfl, ht3⟩
    have HT3 := Lib.hid ht3
    clear ht3
    go_wp2
    go_ret
    exact ⟨rfl, HT3.out⟩
  by_cases ha0 : a < 0
  · go_wp2_with fail
    refine (done.out _ HT2.out).mono ?_
    rintro e w3 ⟨rfl, ht3⟩
    have HT3 := Lib.hid ht3
    clear ht3
    go_wp2
    go_ret
    exact ⟨rfl, HT3.out⟩
  by_cases hab : b < a
  · go_wp2_with fail
    refine (done.out _ HT2.out).mono ?_
    rintro e w3 ⟨rfl, ht3⟩
    have HT3 := Lib.hid ht3
    clear ht3
    go_wp2
    go_ret
    exact ⟨rfl, HT3.out⟩
  clear done
  go_wp2_with fail
  go_loopw [13] (fun i wr => ∃ (k : Nat) (q : Qm), k ≤ l.length ∧ i = .int .i64 k ∧ IsQ wr g q ∧ Hid (q.count = 1 + n) ∧ Hid (q.bytes = 1 + m) ∧ Hid (q.ok) ∧ Touch NoS w wr)
    (fun i _ => l.length - (intOf i).toNat)
  case atStart => exact ⟨0, _, by omega, rfl, HQ2.out, rfl, rfl, by constructor <;> simp [evSize] <;> omega, HT2.out⟩
  case round =>
    obtain ⟨k, q, hk, rfl, hq, hc, hbt, hok, ht⟩ := hrel
    have HQk := Lib.hid hq
    have HTk := Lib.hid ht
    clear hq ht HQ2 HT2
    by_cases hlt : k < l.length
    · obtain ⟨e0, he0⟩ : ∃ e0, e0 = l[k] := ⟨_, rfl⟩
      obtain ⟨ga, off, rfl, hga, c0, c1, c2⟩ := ev_cells (HR.out.touch_no HTk.out) k hlt
      rw [← he0] at c0 c1 c2
      have He0 := Lib.hid he0
      clear he0
      by_cases hbig : 300 < e0.data.size
      · go_wp2_with fail
        go_ret
        exact ⟨rfl, HTk.out⟩
      · go_wp2_with fail
        refine (q_put g q e0 _ HQk.out).mono ?_
        rintro e w4 ⟨rfl, hq4, ht4⟩
        have HT4 := Lib.hid (HTk.out.at_new ht4 hg)
        have HQ4 := Lib.hid hq4
        clear hq4 ht4 HQk
        go_wp2_with fail
        go_roundw
        case rel => exact ⟨k + 1, _, by omega, by go_num, HQ4.out, (putI_count q e0).trans hc, (putI_bytes q e0).trans hbt, hok.out.putI e0, HT4.out⟩
        case measure => simp [intOf]; omega
    · obtain ⟨x, hx⟩ : ∃ x, q.room a = x := ⟨_, rfl⟩
      obtain ⟨y, hy⟩ : ∃ y, q.room b = y := ⟨_, rfl⟩
      have HX := Lib.hid hx
      have HY := Lib.hid hy
      have hxe : x = (decide ((q.l.length : Int) < 1 + n) && decide (a ≤ 1 + m - evSize q.l)) := by
        rw [← hx, Qm.room_eq, hc.out, hbt.out]; simp [show 0 ≤ a by omega]
      have hye : y = (decide ((q.l.length : Int) < 1 + n) && decide (b ≤ 1 + m - evSize q.l)) := by
        rw [← hy, Qm.room_eq, hc.out, hbt.out]; simp [show 0 ≤ b by omega]
      have hxy : (y && !x) = false := by
        subst hxe hye
        by_cases t1 : (q.l.length : Int) < 1 + n <;> by_cases t2 : a ≤ 1 + m - evSize q.l <;> by_cases t3 : b ≤ 1 + m - evSize q.l <;> simp [t1, t2, t3] <;> omega
      obtain ⟨bl1, bs1⟩ : q.l.length ≤ 1024 ∧ evSize q.l ≤ 4194304 := by obtain ⟨_, _, _, _, _, r1, r2, _⟩ := HQk.out; exact ⟨r1, r2⟩
      have HXE := Lib.hid hxe
      clear hx hy hye hxe
      go_wp2_with fail
      refine (q_room g q a x HX.out _ HQk.out).mono ?_
      rintro e w4 ⟨rfl, k4, hw4⟩
      have HT4 : Hid (Touch NoS w w4) := by rw [hw4]; exact HTk.out.drewN _
      have HQ4 : Hid (IsQ w4 g q) := by rw [hw4]; exact HQk.out.no ((Touch.refl _ _).drewN _)
      clear hw4 HTk HQk
      go_wp2_with fail
      refine (q_room g q b y HY.out _ HQ4.out).mono ?_
      rintro e w5 ⟨rfl, k5, hw5⟩
      have HT5 : Hid (Touch NoS w w5) := by rw [hw5]; exact HT4.out.drewN _
      have HQ5 : Hid (IsQ w5 g q) := by rw [hw5]; exact HQ4.out.no ((Touch.refl _ _).drewN _)
      clear hw5 HT4 HQ4
      go_wp2_with fail
      refine (q_len g q _ HQ5.out).mono ?_
      rintro e w6 ⟨rfl, rfl⟩
      go_wp2_with fail
      refine (q_size g q _ HQ5.out).mono ?_
      rintro e w6 ⟨rfl, rfl⟩
      go_wp2_with fail
      refine (q_take g q _ HQ5.out).mono ?_
      rintro e w6 ⟨rfl, hq6, ht6⟩
      have HT6 := Lib.hid (HT5.out.at_new ht6 hg)
      have HQ6 := Lib.hid hq6
      clear hq6 ht6 HT5 HQ5
      unfold Ev.val
      rw [Qm.any_eq]
      by_cases hp : 0 < q.l.length
      · obtain ⟨f1, f2, f3⟩ := Qm.tl_facts hok.out hp
        have HC1 : Hid (∀ W, Touch NoS w6 W → Calls Try.prog 24 #[.pointer (some ⟨g, 0, none⟩)] W fun e w' => e = .returned (.int .i64 ((q.l.length : Int) - 1)) ∧ w' = W) := fun W hW =>
          (q_len g q.tl _ (HQ6.out.no hW)).mono fun e w' ⟨he, hw⟩ => ⟨by rw [he, f1], hw.symm⟩
        have HC2 : Hid (∀ W, Touch NoS w6 W → Calls Try.prog 25 #[.pointer (some ⟨g, 0, none⟩)] W fun e w' => e = .returned (.int .i64 ((evSize q.l : Int) - q.hd.data.size)) ∧ w' = W) := fun W hW =>
          (q_size g q.tl _ (HQ6.out.no hW)).mono fun e w' ⟨he, hw⟩ => ⟨by rw [he, f2], hw.symm⟩
        have HC3 : Hid (∀ W, Touch NoS w6 W → Calls Try.prog 22 #[.pointer (some ⟨g, 0, none⟩), .int .i64 (q.hd.data.size : Int)] W fun e w' => e = .returned (.bool true) ∧ ∃ k, w' = W.drewN k) := fun W hW =>
          q_room g q.tl _ true f3 _ (HQ6.out.no hW)
        have hd1 : q.hd.data.size ≤ evSize q.l := by omega
        have HF := Lib.hid f2
        clear f1 f2 f3
        cases y <;> cases x <;> (try (exfalso; simp at hxy; done))
        all_goals
          clear hxy
          go_wp2_with fail
          have e1 : IntKind.i64.wrap ((q.l.length : Int) - 1) = (q.l.length : Int) - 1 := IntWalk.i64_in _ (by omega)
          have e2 : IntKind.i64.wrap ((evSize q.l : Int) - q.hd.data.size) = (evSize q.l : Int) - q.hd.data.size := IntWalk.i64_in _ (by omega)
          go_quiet (first
            | (go_at_call 24; refine Calls.quiet_of_same (HC1.out _ ?_); exact ((Touch.refl _ _).alloc _).drewN _)
            | (go_at_call 25; refine Calls.quiet_of_same (HC2.out _ ?_); exact ((Touch.refl _ _).alloc _).drewN _)
            | (go_at_call 22; refine Calls.quiet_of (HC3.out _ ?_); exact ((Touch.refl _ _).alloc _).drewN _))
          clear e1 e2
          by_cases t2 : a ≤ 1 + m - evSize q.l
          all_goals
            go_wp2
            go_ret
            refine ⟨?_, (HT6.out.alloc _).drewN _⟩
            have := HXE.out
            simp [t2] at this ⊢
            try omega
      · cases y <;> cases x <;> (try (exfalso; simp at hxy; done))
        all_goals
          clear hxy
          have hp' : ¬ (0 : Int) < (q.l.length : Int) := by omega
          have hpd : decide ((0 : Int) < (q.l.length : Int)) = false := by simpa using hp
          go_wp2_with fail
          go_quiet (fail)
          by_cases t2 : a ≤ 1 + m - evSize q.l
          all_goals
            go_wp2
            go_ret
            refine ⟨?_, (HT6.out.alloc _).drewN _⟩
            have := HXE.out
            simp [t2] at this ⊢
            try omega
end Go.Proofs.Ytgbldgeknmkmmaa
