/- Letters behind letters: the plain law. -/
import Derived.Test.YtgbldgeknmkmmaaUe
namespace Go.Proofs.Ytgbldgeknmkmmaa
open Go.RowKit
set_option linter.unusedSimpArgs false
set_option linter.unusedVariables false

/-- Alike but for what was counted. -/
structure USim (k : Int) (c d : Uc) : Prop where
  bad : c.bad = d.bad
  left : c.left = d.left
  range : c.left = 0 ∨ (c.lo = d.lo ∧ c.hi = d.hi)
  count : c.count = d.count + k
theorem ubegin_sim {k : Int} {c d : Uc} (h : USim k c d) (h0 : c.left = 0) (b : Int) : (ubegin c b).2 = (ubegin d b).2 ∧ USim k (ubegin c b).1 (ubegin d b).1 := by
  obtain ⟨h1, h2, _, h4⟩ := h
  unfold ubegin
  split
  · exact ⟨rfl, ⟨h1, h2, .inl h0, by show c.count + 1 = d.count + 1 + k; omega⟩⟩
  split
  · exact ⟨rfl, ⟨h1, rfl, .inr ⟨rfl, rfl⟩, h4⟩⟩
  split
  · exact ⟨rfl, ⟨h1, rfl, .inr ⟨rfl, rfl⟩, h4⟩⟩
  split
  · exact ⟨rfl, ⟨h1, rfl, .inr ⟨rfl, rfl⟩, h4⟩⟩
  · exact ⟨rfl, ⟨h1, h2, .inl h0, h4⟩⟩
theorem utake_sim {k : Int} {c d : Uc} (h : USim k c d) (b : Int) : (utake c b).2 = (utake d b).2 ∧ USim k (utake c b).1 (utake d b).1 := by
  have h' := h
  obtain ⟨h1, h2, h3, h4⟩ := h
  unfold utake
  by_cases h0 : c.left = 0
  · rw [if_pos h0, if_pos (show d.left = 0 by omega)]
    exact ubegin_sim h' h0 b
  · obtain ⟨e1, e2⟩ := h3.resolve_left h0
    rw [if_neg h0, if_neg (show ¬ d.left = 0 by omega), e1, e2]
    split
    · exact ⟨rfl, h'⟩
    · refine ⟨rfl, ⟨h1, by show c.left - 1 = d.left - 1; omega, .inr ⟨rfl, rfl⟩, ?_⟩⟩
      show (if c.left = 1 then c.count + 1 else c.count) = (if d.left = 1 then d.count + 1 else d.count) + k
      rw [h2]
      split <;> omega
theorem ufeed_sim (l : List Int) : ∀ {k : Int} {c d : Uc}, USim k c d → (ufeed c l).2 = (ufeed d l).2 ∧ USim k (ufeed c l).1 (ufeed d l).1 := by
  induction l with
  | nil => intro k c d h; exact ⟨rfl, h⟩
  | cons b l ih =>
    intro k c d h
    obtain ⟨t1, t2⟩ := utake_sim h b
    unfold ufeed
    rw [h.bad, t1]
    split
    · exact ⟨rfl, h⟩
    split
    · obtain ⟨r1, r2⟩ := ih t2
      exact ⟨by simp [r1], r2⟩
    · exact ⟨rfl, ⟨rfl, t2.left, t2.range, t2.count⟩⟩
theorem USim.of_whole {c : Uc} (h : c.whole = true) : USim c.count c Uc.new := by
  simp [Uc.whole] at h
  exact ⟨h.1, h.2, .inl h.2, by simp [Uc.new]⟩
theorem USim.whole {k : Int} {c d : Uc} (h : USim k c d) : c.whole = d.whole := by unfold Uc.whole; rw [h.bad, h.left]
theorem ucount_join (a b : List Int) (h : (ucount a).2 = true) : (ucount (a ++ b)).2 = (ucount b).2 ∧ ((ucount b).2 = true → (ucount (a ++ b)).1 = (ucount a).1 + (ucount b).1) := by
  have hw : (ufeed Uc.new a).1.whole = true := by
    unfold ucount at h
    split at h
    · assumption
    · cases h
  have hs := ufeed_sim b (USim.of_whole hw)
  have ha := (ufeed_append a b Uc.new).1
  have e1 : (ufeed Uc.new (a ++ b)).1.whole = (ufeed Uc.new b).1.whole := by rw [ha]; exact hs.2.whole
  have e2 : (ufeed Uc.new (a ++ b)).1.count = (ufeed Uc.new a).1.count + (ufeed Uc.new b).1.count := by rw [ha, hs.2.count]; omega
  unfold ucount
  rw [e1, e2, hw]
  cases hb : (ufeed Uc.new b).1.whole <;> simp
theorem ucount_bound (l : List Int) : 0 ≤ (ucount l).1 ∧ (ucount l).1 ≤ l.length := by
  obtain ⟨_, h1, h2, _⟩ := ufeed_ok l new_ok
  simp only [Uc.new, Int.zero_add] at h1 h2
  unfold ucount
  split
  · exact ⟨h2, h1⟩
  · exact ⟨Int.le_refl _, by simp⟩
end Go.Proofs.Ytgbldgeknmkmmaa
