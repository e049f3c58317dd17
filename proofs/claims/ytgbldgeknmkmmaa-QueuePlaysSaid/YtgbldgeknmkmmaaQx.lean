/- The document's queue (pendentiveref14): Take. -/
import Derived.Test.YtgbldgeknmkmmaaQw
namespace Go.Proofs.Ytgbldgeknmkmmaa
open Go.RowKit
set_option linter.unusedSimpArgs false
set_option linter.unusedVariables false

theorem r_take_none (q : Qm) (A : Option Addr) (c : Nat) (w : World) (hq : q.l = []) :
    Calls Try.prog 19 #[rq q A c] w fun e w' => e = .returned (.tuple #[rq q A c, Ev.zero.val, .bool false]) ∧ Touch NoS w w' := by
  have hl : q.l.length = 0 := by rw [hq]; rfl
  have HQ := Lib.hid hq
  clear hq
  unfold rq
  rw [hl]
  clear hl
  go_enter Try.func19, Try.ntmps19
  go_wp2
  exact bodyPost_ret (v := .tuple #[.agg #[.int .i64 q.count, .int .i64 q.bytes, .slice A 0 c], Ev.zero.val, .bool false]) (by simp [results, Try.results19, go_sem, Ev.val, Ev.zero]) rfl ⟨rfl, (((Touch.refl _ _).alloc _).alloc _).alloc _⟩

set_option maxHeartbeats 800000 in
theorem r_take_some (q : Qm) (e0 : Ev) (l : List Ev) (A : Option Addr) (c : Nat) (w : World) (hq : q.l = e0 :: l) (hr : Row w 32 A (evCells q.l)) (hc : q.l.length ≤ c) :
    Calls Try.prog 19 #[rq q A c] w fun e w' => ∃ A' c', e = .returned (.tuple #[rq { q with l := l } A' c', e0.val, .bool true]) ∧ Row w' 32 A' (evCells l) ∧ l.length ≤ c' ∧ Touch NoS w w' := by
  have hl : q.l.length = l.length + 1 := by rw [hq]; rfl
  have HL := Lib.hid hl
  have HW := Lib.hid hr
  have hpos : 1 ≤ q.l.length := by omega
  have hpos0 : 0 < q.l.length := by omega
  have hne : ((q.l.length : Int) == 0) = false := by rw [beq_eq_false_iff_ne]; omega
  obtain ⟨g', off, cs, rfl, hb', hc'⟩ := hr (by rw [hq]; simp [evCells, Ev.cs])
  rw [hq] at hc'
  have c0 := (hb'.cell off).trans (hc' 0 (.int .i64 e0.op) (by simp [evCells, Ev.cs]))
  have c1 := (hb'.cell (off + 1)).trans (hc' 1 (.int .i64 e0.code) (by simp [evCells, Ev.cs]))
  have c2 := (hb'.cell (off + 2)).trans (hc' 2 (.string e0.data) (by simp [evCells, Ev.cs]))
  have hg' := hb'.lt
  have hg1 : g' < w.heap.size + 1 := by omega
  have hg2 : g' < w.heap.size + 1 + 1 := by omega
  have HD : Hid (∀ W, Touch NoS w W → Row W 32 (some ⟨g', off + 3, none⟩) (evCells l)) := fun W hW => by
    have h3 := HW.out.touch_no hW
    rw [hq] at h3
    intro hx
    obtain ⟨g1, off1, cs1, hA, hb1, hc1⟩ := h3 (by simp [evCells, Ev.cs])
    injection hA with hA
    injection hA with e1 e2
    subst e1 e2
    refine ⟨g', off + 3, cs1, rfl, hb1, fun j u hu => ?_⟩
    have := hc1 (3 + j) u (by rw [show evCells (e0 :: l) = e0.cs ++ evCells l from by simp [evCells], List.getElem?_append_right (by simp [Ev.cs])]; simpa [Ev.cs] using hu)
    rwa [← Nat.add_assoc] at this
  have HQ := Lib.hid hq
  clear hq hl hb' hc'
  unfold rq
  by_cases hone : c = 1
  all_goals
    go_enter Try.func19, Try.ntmps19
    go_wp2_with fail
    go_region
    all_goals
      go_wp2
      have hlen := HL.out
      rw [show q.l.length - 1 = l.length from by omega]
      first
      | (subst hone
         refine bodyPost_ret (v := .tuple #[.agg #[.int .i64 q.count, .int .i64 q.bytes, .slice (some ⟨g', off, none⟩) l.length 0], e0.val, .bool true]) (by simp [results, Try.results19, go_sem, Ev.val]) rfl ⟨_, _, rfl, ?_, by omega, (((((Touch.refl _ _).alloc _).alloc _).alloc _).alloc _).drew⟩
         rw [List.eq_nil_of_length_eq_zero (l := l) (by omega)]
         exact Row.nil_ _ _ _)
      | (refine bodyPost_ret (v := .tuple #[.agg #[.int .i64 q.count, .int .i64 q.bytes, .slice (some ⟨g', off + 3, none⟩) l.length (c - 1)], e0.val, .bool true]) (by simp [results, Try.results19, go_sem, Ev.val]) rfl ⟨_, _, rfl, HD.out _ (((((Touch.refl _ _).alloc _).alloc _).alloc _).alloc _).drew, by omega, (((((Touch.refl _ _).alloc _).alloc _).alloc _).alloc _).drew⟩)
end Go.Proofs.Ytgbldgeknmkmmaa
