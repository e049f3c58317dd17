/- The law QueueOrder: of two that both wait the one that was put first is taken first; sizes add up. -/
import Derived.Test.YtgbldgeknmkmmaaQd
import Derived.Test.YtgbldgeknmkmmaaQArg

namespace Go.Proofs.Ytgbldgeknmkmmaa
open Go.RowKit
set_option linter.unusedSimpArgs false
set_option linter.unusedVariables false

theorem evCells_at (l : List Ev) (k : Nat) (h : k < l.length) : (evCells l)[k * 3]? = some (.int .i64 l[k].op) ∧ (evCells l)[k * 3 + 1]? = some (.int .i64 l[k].code) ∧ (evCells l)[k * 3 + 2]? = some (.string l[k].data) := by
  induction l generalizing k with
  | nil => simp at h
  | cons e l ih =>
    have he : evCells (e :: l) = e.cs ++ evCells l := by simp [evCells]
    rw [he]
    cases k with
    | zero => simp [Ev.cs]
    | succ k =>
      have := ih k (by simpa using h)
      refine ⟨?_, ?_, ?_⟩
      · rw [List.getElem?_append_right (by simp [Ev.cs]; omega), show (k + 1) * 3 - e.cs.length = k * 3 from by simp [Ev.cs]; omega]; exact this.1
      · rw [List.getElem?_append_right (by simp [Ev.cs]; omega), show (k + 1) * 3 + 1 - e.cs.length = k * 3 + 1 from by simp [Ev.cs]; omega]; exact this.2.1
      · rw [List.getElem?_append_right (by simp [Ev.cs]; omega), show (k + 1) * 3 + 2 - e.cs.length = k * 3 + 2 from by simp [Ev.cs]; omega]; exact this.2.2

/-- The cells of the element k of a slice of events. -/
theorem ev_cells {w : World} {A : Option Addr} {l : List Ev} (h : Rd w A (evCells l)) (k : Nat) (hk : k < l.length) : ∃ g off, A = some ⟨g, off, none⟩ ∧ g < w.heap.size ∧
    w.cell? ⟨g, off + k * 3, none⟩ = some (.int .i64 l[k].op) ∧ w.cell? ⟨g, off + k * 3 + 1, none⟩ = some (.int .i64 l[k].code) ∧ w.cell? ⟨g, off + k * 3 + 2, none⟩ = some (.string l[k].data) := by
  obtain ⟨h0, h1, h2⟩ := evCells_at l k hk
  obtain ⟨g, off, hA, hg, hc⟩ := h (by intro he; rw [he] at h0; simp at h0)
  exact ⟨g, off, hA, hg, hc _ _ h0, by rw [Nat.add_assoc]; exact hc _ _ h1, by rw [Nat.add_assoc]; exact hc _ _ h2⟩

theorem ev_cells_at {w : World} {g off : Nat} {l : List Ev} (h : Rd w (some ⟨g, off, none⟩) (evCells l)) (k : Nat) (hk : k < l.length) : g < w.heap.size ∧
    w.cell? ⟨g, off + k * 3, none⟩ = some (.int .i64 l[k].op) ∧ w.cell? ⟨g, off + k * 3 + 1, none⟩ = some (.int .i64 l[k].code) ∧ w.cell? ⟨g, off + k * 3 + 2, none⟩ = some (.string l[k].data) := by
  obtain ⟨g', off', hA, h1⟩ := ev_cells h k hk
  injection hA with hA
  injection hA with e1 e2
  subst e1 e2
  exact h1

theorem evSize_take_succ (l : List Ev) (k : Nat) (h : k < l.length) : evSize (l.take (k + 1)) = evSize (l.take k) + l[k].data.size := by
  rw [List.take_succ_eq_append_getElem h, evSize_append]; simp [evSize]
theorem evSize_le (l : List Ev) (k : Nat) (h : ∀ i, (hi : i < l.length) → i < k → l[i].data.size ≤ 300) : evSize (l.take k) ≤ 300 * k := by
  induction k with
  | zero => simp [evSize]
  | succ k ih =>
    have := ih (fun i hi hk => h i hi (by omega))
    by_cases hk : k < l.length
    · rw [evSize_take_succ l k hk]; have := h k hk (by omega); omega
    · rw [List.take_of_length_le (by omega)] at this ⊢; omega

theorem evSize_drop_le (l : List Ev) (k : Nat) : evSize (l.drop k) ≤ evSize l := by
  have := evSize_append (l.take k) (l.drop k)
  rw [List.take_append_drop] at this
  omega

set_option maxHeartbeats 1600000 in
set_option maxRecDepth 100000 in
theorem order_walk (A : Option Addr) (l : List Ev) (c : Nat) (w : World) (hr : Rd w A (evCells l)) (hlen : l.length ≤ 9223372036854775807) :
    Calls Try.prog 7 #[.slice A l.length c] w fun e w' => e = .returned (.bool true) ∧ Touch NoS w w' := by
  go_enter Try.func7, Try.ntmps7
  have HR := Lib.hid hr
  clear hr
  go_wp2_with fail
  refine (q_new (N := NoS) 1024 4194304 _ (by omega) (by omega) (by omega) (by omega)).mono ?_
  rintro e w1 ⟨g, rfl, hg, hq1, ht1⟩
  have HT := Lib.hid ht1
  have HQ := Lib.hid hq1
  clear ht1 hq1
  go_wp2_with fail
  refine (q_awake _).mono ?_
  rintro e w2 ⟨rfl, ht2⟩
  have HT2 := Lib.hid (HT.out.trans ht2)
  have HQ2 := Lib.hid (HQ.out.no ht2)
  clear ht2 HT HQ
  by_cases h30 : 30 < l.length
  · go_wp2_with fail
    refine (q_awake _).mono ?_
    rintro e w3 ⟨rfl, ht3⟩
    have HT3 := Lib.hid (HT2.out.trans ht3)
    clear ht3
    go_wp2
    go_ret
    exact ⟨rfl, HT3.out⟩
  go_wp2_with fail
  go_loopw [5, 6] (fun s i wr => ∃ k : Nat, k ≤ l.length ∧ i = .int .i64 k ∧ s = .int .i64 (evSize (l.take k)) ∧ IsQ wr g ⟨1024, 4194304, l.take k⟩ ∧ Touch NoS w wr ∧ ∀ i, (hi : i < l.length) → i < k → l[i].data.size ≤ 300)
    (fun _ i _ => l.length - (intOf i).toNat)
  case atStart => exact ⟨0, by omega, rfl, by simp [evSize], HQ2.out, HT2.out, fun i _ hi => by omega⟩
  case round =>
    obtain ⟨k, hk, rfl, rfl, hq, ht, hs⟩ := hrel
    have HQk := Lib.hid hq
    have HTk := Lib.hid ht
    have HSk := Lib.hid hs
    have hsz := evSize_le l k hs
    clear hq ht hs HT2 HQ2
    by_cases hlt : k < l.length
    · obtain ⟨e0, he0⟩ : ∃ e0, e0 = l[k] := ⟨_, rfl⟩
      obtain ⟨ga, off, rfl, hga, c0, c1, c2⟩ := ev_cells (HR.out.touch_no HTk.out) k hlt
      rw [← he0] at c0 c1 c2
      have He0 := Lib.hid he0
      have h3 := evSize_take_succ l k hlt
      rw [← he0] at h3
      have H3 := Lib.hid h3
      have hs4 : e0.data.size ≤ 9223372036854775807 - 9000 ∨ 300 < e0.data.size := by omega
      clear he0 h3
      by_cases hbig : 300 < e0.data.size
      · go_wp2_with fail
        go_ret
        exact ⟨rfl, HTk.out⟩
      · go_wp2_with fail
        refine (q_put_yes g ⟨1024, 4194304, l.take k⟩ e0 ?_ _ HQk.out).mono ?_
        · simp [Qm.room, roomB]; omega
        rintro e w3 ⟨rfl, hq3, ht3⟩
        have HT3 := Lib.hid (HTk.out.at_new ht3 hg)
        have hq4 : IsQ w3 g ⟨1024, 4194304, l.take (k + 1)⟩ := by
          have : (Qm.put ⟨1024, 4194304, l.take k⟩ e0) = ⟨1024, 4194304, l.take (k + 1)⟩ := by
            rw [List.take_succ_eq_append_getElem hlt, ← He0.out]; rfl
          rw [← this]; exact hq3
        have HQ4 := Lib.hid hq4
        have HL : Hid ((l.take (k + 1)).length = k + 1) := by rw [Hid, List.length_take]; omega
        have hne : ((evSize (List.take k l) : Int) + e0.data.size != evSize (List.take k l) + e0.data.size) = false := by simp
        clear hq3 ht3 hq4 HQk
        go_wp2_with fail
        refine (q_len g ⟨1024, 4194304, l.take (k + 1)⟩ _ HQ4.out).mono ?_
        rintro e w4 ⟨rfl, rfl⟩
        simp only [HL.out]
        go_wp2_with fail
        refine (q_size g ⟨1024, 4194304, l.take (k + 1)⟩ _ HQ4.out).mono ?_
        rintro e w4 ⟨rfl, rfl⟩
        simp only [H3.out]
        go_wp2_with fail
        go_roundw
        case rel =>
          refine ⟨k + 1, by omega, by go_num, by rw [H3.out]; go_num, HQ4.out, HT3.out, fun i hi hik => ?_⟩
          by_cases h : i = k
          · subst h; rw [← He0.out]; omega
          · exact HSk.out i hi (by omega)
        case measure => simp [intOf]; omega
    · obtain rfl : k = l.length := by omega
      have hs0 := hsz
      rw [List.take_length] at hs0
      have HQl : Hid (IsQ wr g ⟨1024, 4194304, l.drop 0⟩) := by rw [Hid, List.drop_zero]; have := HQk.out; rwa [List.take_length] at this
      have HTl := HTk
      rw [List.take_length]
      obtain ⟨w9, hw9⟩ : ∃ w9, w9 = wr := ⟨_, rfl⟩
      subst hw9
      clear HQk hsz
      go_wp2_with fail
      go_loopw [5, 7] (fun s i wr => ∃ k : Nat, k ≤ l.length ∧ i = .int .i64 k ∧ s = .int .i64 (evSize (l.drop k)) ∧ IsQ wr g ⟨1024, 4194304, l.drop k⟩ ∧ Touch NoS w wr)
        (fun _ i _ => l.length - (intOf i).toNat)
      case atStart => exact ⟨0, by omega, rfl, by simp, HQl.out, HTl.out⟩
      case round =>
        obtain ⟨k, hk, rfl, rfl, hq, ht⟩ := hrel
        have HQk := Lib.hid hq
        have HTk := Lib.hid ht
        clear hq ht HQl HTl
        by_cases hlt : k < l.length
        · obtain ⟨e0, he0⟩ : ∃ e0, e0 = l[k] := ⟨_, rfl⟩
          have hd : l.drop k = e0 :: l.drop (k + 1) := by rw [he0]; exact List.drop_eq_getElem_cons hlt
          have He0 := Lib.hid he0
          have hev : evSize (l.drop k) = e0.data.size + evSize (l.drop (k + 1)) := by rw [hd]; simp [evSize]
          have HEV := Lib.hid hev
          have HD := Lib.hid hd
          have hb1 : e0.data.size ≤ evSize (l.drop k) := by omega
          have hb2 : evSize (l.drop k) ≤ 9000 := by have := evSize_drop_le l k; omega
          clear he0 hd hev
          go_wp2_with fail
          refine (q_take_some g ⟨1024, 4194304, l.drop k⟩ e0 (l.drop (k + 1)) HD.out _ HQk.out).mono ?_
          rintro e w3 ⟨rfl, hq3, ht3⟩
          have HQ3 := Lib.hid hq3
          have HT3 := Lib.hid (HTk.out.at_new ht3 hg)
          clear hq3 ht3 HQk
          unfold Ev.val
          obtain ⟨ga, off, rfl, hga, c0, c1, c2⟩ := ev_cells (HR.out.touch_no HT3.out) k hlt
          rw [← He0.out] at c0 c1 c2
          have HC1 : Hid (∀ W, Touch NoS w3 W → Calls Try.prog 24 #[.pointer (some ⟨g, 0, none⟩)] W fun e w' => e = .returned (.int .i64 ((l.length : Int) - k - 1)) ∧ w' = W) := fun W hW =>
            (q_len g ⟨1024, 4194304, l.drop (k + 1)⟩ _ (HQ3.out.no hW)).mono fun e w' ⟨he, hw⟩ => ⟨by rw [he, show ((l.length : Int) - k - 1) = ((l.drop (k + 1)).length : Nat) from by rw [List.length_drop]; omega], hw.symm⟩
          have HC2 : Hid (∀ W, Touch NoS w3 W → Calls Try.prog 25 #[.pointer (some ⟨g, 0, none⟩)] W fun e w' => e = .returned (.int .i64 ((evSize (l.drop k) : Int) - e0.data.size)) ∧ w' = W) := fun W hW =>
            (q_size g ⟨1024, 4194304, l.drop (k + 1)⟩ _ (HQ3.out.no hW)).mono fun e w' ⟨he, hw⟩ => ⟨by rw [he, show ((evSize (l.drop k) : Int) - e0.data.size) = (evSize (l.drop (k + 1)) : Nat) from by have := HEV.out; omega], hw.symm⟩
          go_wp2_with fail
          have e1 : IntKind.i64.wrap ((l.length : Int) - k) = (l.length : Int) - k := IntWalk.i64_in _ (by omega)
          have e2 : IntKind.i64.wrap ((l.length : Int) - k - 1) = (l.length : Int) - k - 1 := IntWalk.i64_in _ (by omega)
          go_quiet (first
            | (go_at_call 24; refine Calls.quiet_of_same (HC1.out _ ?_); exact ((Touch.refl _ _).alloc _).drewN _)
            | (go_at_call 25; refine Calls.quiet_of_same (HC2.out _ ?_); exact ((Touch.refl _ _).alloc _).drewN _))
          clear e1 e2
          go_wp2_with fail
          go_roundw
          case rel =>
            refine ⟨k + 1, by omega, by go_num, ?_, HQ3.out.no (((Touch.refl _ _).alloc _).drewN _), (HT3.out.alloc _).drewN _⟩
            have := HEV.out
            rw [show ((evSize (l.drop k) : Int) - e0.data.size) = (evSize (l.drop (k + 1)) : Nat) from by omega]
          case measure => simp [intOf]; omega
        · obtain rfl : k = l.length := by omega
          have hd : l.drop l.length = [] := by simp
          have HD := Lib.hid hd
          have hz : evSize (l.drop l.length) = 0 := by rw [hd]; rfl
          clear hd
          rw [hz]
          clear hz
          go_wp2_with fail
          refine (q_take_none g ⟨1024, 4194304, l.drop l.length⟩ HD.out _ HQk.out).mono ?_
          rintro e w3 ⟨rfl, ht3⟩
          have HQ3 := Lib.hid (HQk.out.no ht3)
          have HT3 := Lib.hid (HTk.out.trans ht3)
          clear ht3 HQk
          unfold Ev.val Ev.zero
          have hz : ((evSize (l.drop l.length) : Int) == 0) = true := by rw [HD.out]; rfl
          go_wp2_with (go_at_call 25; refine (q_size g ⟨1024, 4194304, l.drop l.length⟩ _ (HQ3.out.no ((Touch.refl _ _).alloc _))).mono ?_; rintro e w' ⟨rfl, rfl⟩)
          go_ret
          exact ⟨by simp [evSize], HT3.out.alloc _⟩
theorem order_row (w : World) (A : Option Addr) (l : List Ev) (c : Nat) (hr : Rd w A (evCells l)) (_ : ∀ x ∈ l, x.good) (h1 : l.length ≤ c) (h2 : c ≤ maxLen) :
    Calls Try.prog 7 #[.slice A l.length c] w fun e w' => e = .returned (.bool true) ∧ Touch NoS w w' :=
  order_walk A l c w hr (by unfold maxLen at h2; omega)
end Go.Proofs.Ytgbldgeknmkmmaa
