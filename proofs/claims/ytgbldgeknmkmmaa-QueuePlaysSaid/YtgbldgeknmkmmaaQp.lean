/- The document's queue (pendentiveref14): Size, Room, Put, Take. -/
import Derived.Test.YtgbldgeknmkmmaaQs
import Derived.Test.YtgbldgeknmkmmaaMem2
import Derived.Deep.RegionHeld3
namespace Go.Proofs.Ytgbldgeknmkmmaa
open Go.RowKit
set_option linter.unusedSimpArgs false
set_option linter.unusedVariables false

/-- The document's queue as a value: its list read in w. -/
def rq (q : Qm) (A : Option Addr) (c : Nat) : Value := .agg #[.int .i64 q.count, .int .i64 q.bytes, .slice A q.l.length c]

set_option maxHeartbeats 800000 in
theorem r_size (q : Qm) (A : Option Addr) (c : Nat) (w : World) (hr : Rd w A (evCells q.l)) (hl : q.l.length ≤ 1024) (hs : evSize q.l ≤ 4194304) :
    Calls Try.prog 26 #[rq q A c] w fun e w' => e = .returned (.int .i64 (evSize q.l)) ∧ Touch NoS w w' := by
  have HR := Lib.hid hr
  clear hr
  unfold rq
  go_enter Try.func26, Try.ntmps26
  go_wp2_with fail
  go_loopw [3, 4] (fun s i wr => ∃ k : Nat, k ≤ q.l.length ∧ i = .int .i64 k ∧ s = .int .i64 (evSize (q.l.take k)) ∧ Blk wr w.heap.size 30 #[.int .i64 q.count, .int .i64 q.bytes, .slice A q.l.length c] ∧ Touch NoS w wr) (fun _ i _ => q.l.length - (intOf i).toNat)
  case atStart => exact ⟨0, by omega, rfl, by simp [evSize], Blk.new _ _ _, (Touch.refl _ _).alloc _⟩
  case round =>
    obtain ⟨k, hk, rfl, rfl, hb, ht⟩ := hrel
    have HB := Lib.hid hb
    have HT := Lib.hid ht
    have b2 := hb.cell 2
    have hz := hb.lt
    simp at b2
    clear hb ht
    have hsz : evSize (q.l.take k) ≤ evSize q.l := by
      have := evSize_append (q.l.take k) (q.l.drop k)
      rw [List.take_append_drop] at this
      omega
    by_cases hlt : k < q.l.length
    · obtain ⟨e0, he0⟩ : ∃ e0, e0 = q.l[k] := ⟨_, rfl⟩
      obtain ⟨ga, off, rfl, hga, c0, c1, c2⟩ := ev_cells (HR.out.touch_no HT.out) k hlt
      have h3 := evSize_take_succ q.l k hlt
      have h4 : evSize (q.l.take (k + 1)) ≤ evSize q.l := by
        have := evSize_append (q.l.take (k + 1)) (q.l.drop (k + 1))
        rw [List.take_append_drop] at this
        omega
      rw [← he0] at c0 c1 c2 h3
      have h5 : e0.data.size ≤ 4194304 := by omega
      have H3 := Lib.hid h3
      clear he0 h3 h4
      go_wp2_with fail
      go_roundw
      case rel => exact ⟨k + 1, by omega, by go_num, by rw [H3.out]; go_num, HB.out, HT.out⟩
      case measure => simp [intOf]; omega
    · obtain rfl : k = q.l.length := by omega
      go_wp2
      go_ret
      exact ⟨by simp, HT.out⟩
set_option maxHeartbeats 1600000 in
theorem r_room (q : Qm) (x : Int) (A : Option Addr) (c : Nat) (w : World) (hr : Rd w A (evCells q.l)) (hl : q.l.length ≤ 1024) (hs : evSize q.l ≤ 4194304) (hb1 : q.bytes ≤ 4194304) :
    Calls Try.prog 23 #[rq q A c, .int .i64 x] w fun e w' => e = .returned (.bool (q.room x)) ∧ Touch NoS w w' := by
  have HR : Hid (∀ W, Touch NoS w W → Calls Try.prog 26 #[.agg #[.int .i64 q.count, .int .i64 q.bytes, .slice A q.l.length c]] W fun e w' => e = .returned (.int .i64 (evSize q.l)) ∧ Touch NoS W w') := fun W hW => r_size q A c W (hr.touch_no hW) hl hs
  clear hr
  unfold rq
  by_cases t1 : (q.l.length : Int) < q.count
  · by_cases t2 : 0 ≤ x
    · by_cases t3 : x ≤ q.bytes
      · have hq : q.room x = decide ((evSize q.l : Int) + x ≤ q.bytes) := by
          simp only [Qm.room_eq, t1, t2, decide_true, Bool.true_and]
          exact decide_eq_decide.2 (by omega)
        rw [hq]
        clear hq
        go_enter Try.func23, Try.ntmps23
        go_wp2_with fail
        obtain ⟨w1, hw1⟩ : ∃ w1, w1 = w.alloc (.cells #[.int .i64 q.count, .int .i64 q.bytes, .slice A q.l.length c] 30) := ⟨_, rfl⟩
        have hb := Blk.new w 30 #[.int .i64 q.count, .int .i64 q.bytes, .slice A q.l.length c]
        have ht0 : Touch NoS w w1 := by rw [hw1]; exact (Touch.refl _ _).alloc _
        rw [← hw1] at hb ⊢
        clear hw1
        have b0 : w1.cell? ⟨w.heap.size, 0, none⟩ = some (.int .i64 q.count) := hb.cell 0
        have b1 : w1.cell? ⟨w.heap.size, 1, none⟩ = some (.int .i64 q.bytes) := hb.cell 1
        have b2 : w1.cell? ⟨w.heap.size, 2, none⟩ = some (.slice A q.l.length c) := hb.cell 2
        have e1 : IntKind.i64.wrap ((evSize q.l : Int) + x) = (evSize q.l : Int) + x := IntWalk.i64_in _ (by omega)
        have htd : Touch NoS w w1.drew := ht0.drew
        clear hb
        go_region_held3 (fun w' => w'.cell? ⟨w.heap.size, 0, none⟩ = some (.int .i64 q.count) ∧ w'.cell? ⟨w.heap.size, 1, none⟩ = some (.int .i64 q.bytes) ∧ w'.cell? ⟨w.heap.size, 2, none⟩ = some (.slice A q.l.length c) ∧ Touch NoS w w')
          (first | go_keep | (refine ⟨?_, ?_, ?_, ?_⟩ <;> first | assumption | go_keep))
          (first | (go_at_call 26; refine (HR.out _ ?_).mono ?_; exact htd; rintro e w' ⟨rfl, ht1⟩; have k0 := ht1.cell (w := w1.drew) b0; have k1 := ht1.cell (w := w1.drew) b1; have k2 := ht1.cell (w := w1.drew) b2; have k3 := htd.trans ht1))
        go_wp2
        go_ret
        exact ⟨rfl, k3⟩
      · have hq : q.room x = false := by
          simp only [Qm.room_eq, t1, t2, decide_true, Bool.true_and]
          simp; omega
        rw [hq]
        have t3' : decide (x ≤ q.bytes) = false := by simpa using t3
        clear hq
        go_enter Try.func23, Try.ntmps23
        go_wp2_with fail
        go_quiet (fail)
        go_wp2
        go_ret
        exact ⟨rfl, ((Touch.refl _ _).alloc _).drewN _⟩
    · have hq : q.room x = false := by simp [Qm.room_eq, t2]
      rw [hq]
      have t2' : decide (0 ≤ x) = false := by simpa using t2
      clear hq
      go_enter Try.func23, Try.ntmps23
      go_wp2_with fail
      go_quiet (fail)
      go_wp2
      go_ret
      exact ⟨rfl, ((Touch.refl _ _).alloc _).drewN _⟩
  · have hq : q.room x = false := by simp [Qm.room_eq, t1]
    rw [hq]
    have t1' : decide ((q.l.length : Int) < q.count) = false := by simpa using t1
    clear hq
    go_enter Try.func23, Try.ntmps23
    go_wp2_with fail
    go_quiet (fail)
    go_wp2
    go_ret
    exact ⟨rfl, ((Touch.refl _ _).alloc _).drewN _⟩
end Go.Proofs.Ytgbldgeknmkmmaa
