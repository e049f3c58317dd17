/- The queue's methods once more: one contract each, whatever comes of it. -/
import Derived.Test.YtgbldgeknmkmmaaQc
namespace Go.Proofs.Ytgbldgeknmkmmaa
open Go.RowKit
set_option linter.unusedSimpArgs false
set_option linter.unusedVariables false
variable {N : Nat → Prop}

def Qm.putI (q : Qm) (e : Ev) : Qm := if q.room e.data.size then q.put e else q
def Qm.hd (q : Qm) : Ev := q.l.headD Ev.zero
def Qm.any (q : Qm) : Bool := !q.l.isEmpty

theorem IsQN.far {N' : Nat → Prop} {w w' : World} {g g' : Nat} {q q' : Qm} (h : IsQN N w g q) (k : Touch (At g') w w') (h' : IsQN N' w g' q') (hne : g ≠ g') : IsQN N w' g q := by
  obtain ⟨A, c, hb, h1, h2, h3⟩ := h
  obtain ⟨A', c', hb', _⟩ := h'
  exact ⟨A, c, hb.touch k (fun e => hne e), h1, h2.touch_at k hb' (by decide), h3⟩

theorem q_put (g : Nat) (q : Qm) (x : Ev) (w : World) (h : IsQN N w g q) (hN : ∀ k, N k → k < w.heap.size := by exact fun _ h => h.elim) :
    Calls Try.prog 18 #[.pointer (some ⟨g, 0, none⟩), x.val] w fun e w' => e = .returned (.bool (q.room x.data.size)) ∧ IsQN N w' g (q.putI x) ∧ Touch (At g) w w' := by
  by_cases hr : q.room x.data.size = true
  · exact (q_put_yes g q x hr w h hN).mono fun e w' ⟨h1, h2, h3⟩ => ⟨by rw [h1, hr], by rw [Qm.putI, if_pos hr]; exact h2, h3⟩
  · have hr' : q.room x.data.size = false := by simpa using hr
    exact (q_put_no g q x hr' w h).mono fun e w' ⟨h1, h3⟩ => ⟨by rw [h1, hr'], by rw [Qm.putI, if_neg hr]; exact h.no h3, h3.of_no⟩
theorem q_take (g : Nat) (q : Qm) (w : World) (h : IsQN N w g q) :
    Calls Try.prog 20 #[.pointer (some ⟨g, 0, none⟩)] w fun e w' => e = .returned (.tuple #[q.hd.val, .bool q.any]) ∧ IsQN N w' g q.tl ∧ Touch (At g) w w' := by
  rcases hl : q.l with _ | ⟨e0, l⟩
  · have ht : q.tl = q := by cases q; simp only at hl; subst hl; rfl
    exact (q_take_none g q hl w h).mono fun e w' ⟨h1, h3⟩ => ⟨by rw [h1]; simp [Qm.hd, Qm.any, hl], by rw [ht]; exact h.no h3, h3.of_no⟩
  · have ht : q.tl = { q with l := l } := by simp [Qm.tl, hl]
    exact (q_take_some g q e0 l hl w h).mono fun e w' ⟨h1, h2, h3⟩ => ⟨by rw [h1]; simp [Qm.hd, Qm.any, hl], by rw [ht]; exact h2, h3⟩
theorem q_peek (g : Nat) (q : Qm) (w : World) (h : IsQN N w g q) :
    Calls Try.prog 21 #[.pointer (some ⟨g, 0, none⟩)] w fun e w' => e = .returned (.tuple #[q.hd.val, .bool q.any]) ∧ Touch NoS w w' := by
  rcases hl : q.l with _ | ⟨e0, l⟩
  · exact (q_peek_none g q hl w h).mono fun e w' ⟨h1, h3⟩ => ⟨by rw [h1]; simp [Qm.hd, Qm.any, hl], h3⟩
  · exact (q_peek_some g q e0 l hl w h).mono fun e w' ⟨h1, h3⟩ => ⟨by rw [h1]; simp [Qm.hd, Qm.any, hl], h3⟩
theorem Qm.any_eq (q : Qm) : q.any = decide ((0 : Int) < q.l.length) := by
  rcases hl : q.l with _ | ⟨e, l⟩ <;> simp [Qm.any, hl]
theorem Qm.room_eq (q : Qm) (x : Int) : q.room x = (decide ((q.l.length : Int) < q.count) && (decide (0 ≤ x) && decide (x ≤ q.bytes - evSize q.l))) := rfl
end Go.Proofs.Ytgbldgeknmkmmaa
