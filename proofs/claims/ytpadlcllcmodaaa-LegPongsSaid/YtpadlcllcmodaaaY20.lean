/- stream: the plain laws: what bytes are read as, frame by frame. -/
import Derived.Test.YtpadlcllcmodaaaY18
import Derived.Test.YtpadlcllcmodaaaY19
/- stream: the plain laws: what bytes are read as, frame by frame. -/
namespace Go.Proofs.Ytpadlcllcmodaaa
open Go.RowKit
set_option linter.unusedSimpArgs false
set_option linter.unusedVariables false

theorem fget_errs (l : List Int) (most : Int) : (fget l most).2.2 = 0 ∨ (fget l most).2.2 = 90 ∨ (fget l most).2.2 = 91 ∨ (fget l most).2.2 = 92 := by
  unfold fget
  split
  · exact .inr (.inl rfl)
  split
  · exact .inr (.inr (.inl rfl))
  unfold flen
  simp only
  split
  · exact .inr (.inr (.inl rfl))
  split
  · exact .inr (.inl rfl)
  split
  · exact .inr (.inr (.inr rfl))
  unfold fmask
  split
  · split
    · exact .inr (.inl rfl)
    · unfold fdata
      split
      · exact .inr (.inl rfl)
      · exact .inl rfl
  · unfold fdata
    split
    · exact .inr (.inl rfl)
    · exact .inl rfl
theorem fget_two {l : List Int} (hb : bytesIn l) (hl : l.length ≤ maxLen) {most : Int} (h : (fget l most).2.2 = 0) : 2 ≤ (fget l most).2.1 ∧ (fget l most).2.1 ≤ l.length := by
  obtain ⟨f, n, e, hG⟩ : ∃ f n e, fget l most = (f, n, e) := ⟨_, _, _, rfl⟩
  rw [hG] at h ⊢
  simp only at h ⊢
  subst h
  obtain ⟨h1, h2, h3, h4, h5⟩ := fget_ok hb hl hG
  have := congrArg List.length h5
  rw [fput_length, List.length_take] at this
  have h6 := size9_ge f
  omega
theorem slook_ok {mk : Bool} {most : Int} {l : List Int} (h : (slook mk most l).2.2 = 0) : slook mk most l = fget l most ∧ (1 < l.length → decide (128 ≤ l.getD 1 0) = mk) ∧ (1 < l.length → (fget (l.take 1) most).2.2 ≠ 91) := by
  unfold slook at h ⊢
  by_cases h1 : 1 < l.length ∧ (fget (l.take 1) most).2.2 = 91
  · rw [if_pos h1] at h; cases h
  rw [if_neg h1] at h ⊢
  by_cases h2 : 1 < l.length ∧ decide (128 ≤ l.getD 1 0) ≠ mk
  · rw [if_pos h2] at h; cases h
  rw [if_neg h2]
  refine ⟨rfl, fun h3 => ?_, fun h3 h4 => h1 ⟨h3, h4⟩⟩
  cases hd : decide (decide (128 ≤ l.getD 1 0) = mk)
  · exact absurd ⟨h3, of_decide_eq_false hd⟩ h2
  · exact of_decide_eq_true hd
theorem slook_errs (mk : Bool) (most : Int) (l : List Int) : (slook mk most l).2.2 = 0 ∨ (slook mk most l).2.2 = 90 ∨ (slook mk most l).2.2 = 91 ∨ (slook mk most l).2.2 = 92 ∨ (slook mk most l).2.2 = 100 := by
  unfold slook
  split
  · exact .inr (.inr (.inl rfl))
  split
  · exact .inr (.inr (.inr (.inr rfl)))
  rcases fget_errs l most with h | h | h | h
  · exact .inl h
  · exact .inr (.inl h)
  · exact .inr (.inr (.inl h))
  · exact .inr (.inr (.inr (.inl h)))
theorem slook_no {mk : Bool} {most : Int} {l : List Int} (hb : bytesIn l) (h : (slook mk most l).2.2 ≠ 0) : (slook mk most l).1 = Fr.zero ∧ (slook mk most l).2.1 = 0 := by
  unfold slook at h ⊢
  split
  · exact ⟨rfl, rfl⟩
  split
  · exact ⟨rfl, rfl⟩
  rename_i h1 h2
  rw [if_neg h1, if_neg h2] at h
  exact fget_no hb h
/-- What is known of a beginning stays so. -/
theorem slook_mono {mk : Bool} {most : Int} {l r : List Int} (hb : bytesIn (l ++ r)) (hl : l.length ≤ maxLen) (he : (slook mk most l).2.2 ≠ 90) : slook mk most (l ++ r) = slook mk most l := by
  have hbl : bytesIn l := fun x hx => hb x (List.mem_append.2 (.inl hx))
  by_cases h1 : 1 < l.length
  · have ht : (l ++ r).take 1 = l.take 1 := by rw [List.take_append_of_le_length (by omega)]
    have hg : (l ++ r).getD 1 0 = l.getD 1 0 := by
      rw [List.getD_eq_getElem?_getD, List.getD_eq_getElem?_getD, List.getElem?_append_left h1]
    have h1' : 1 < (l ++ r).length := by rw [List.length_append]; omega
    unfold slook at he ⊢
    rw [ht, hg]
    simp only [h1, h1', true_and] at he ⊢
    split
    · rfl
    split
    · rfl
    rename_i g1 g2
    rw [if_neg g1, if_neg g2] at he
    exact fget_mono hb most he
  · have hs : slook mk most l = fget l most := by
      unfold slook
      rw [if_neg (fun h => h1 h.1), if_neg (fun h => h1 h.1)]
    rw [hs] at he ⊢
    have h91 : (fget l most).2.2 = 91 ∨ (fget l most).2.2 = 0 ∨ (fget l most).2.2 = 92 := by
      rcases fget_errs l most with h | h | h | h
      · exact .inr (.inl h)
      · exact absurd h he
      · exact .inl h
      · exact .inr (.inr h)
    have h90 : l = [] → False := by rintro rfl; exact he rfl
    obtain ⟨x, rfl⟩ : ∃ x, l = [x] := by
      rcases l with _ | ⟨x, _ | ⟨y, t⟩⟩
      · exact absurd rfl h90
      · exact ⟨x, rfl⟩
      · exact absurd (by simp) h1
    have hone : (fget [x] most).2.2 = 90 ∨ (fget [x] most).2.2 = 91 := by
      unfold fget
      rw [if_neg (by simp)]
      split
      · exact .inr rfl
      · left; rfl
    have h9 : (fget [x] most).2.2 = 91 := by
      rcases hone with h | h
      · exact absurd h he
      · exact h
    have hz := fget_no hbl (most := most) (by rw [h9]; decide)
    have hfull : fget [x] most = (Fr.zero, 0, 91) := Prod.ext hz.1 (Prod.ext hz.2 h9)
    rcases r with _ | ⟨y, t⟩
    · rw [List.append_nil]; exact hs
    · unfold slook
      rw [if_pos ⟨by simp, by simpa using h9⟩, hfull]

/-- The frames of bytes; what is left; what is wrong. -/
def scanF (mk : Bool) (most : Int) : Nat → List Int → List Fr × List Int × Int
  | 0, l => ([], l, 0)
  | k + 1, l =>
    if (slook mk most l).2.2 = 0 then ((slook mk most l).1 :: (scanF mk most k (l.drop (slook mk most l).2.1)).1, (scanF mk most k (l.drop (slook mk most l).2.1)).2)
    else if (slook mk most l).2.2 = 90 then ([], l, 0) else ([], [], (slook mk most l).2.2)
def scan (mk : Bool) (most : Int) (l : List Int) : List Fr × List Int × Int := scanF mk most (l.length + 1) l
theorem slook_two {mk : Bool} {most : Int} {l : List Int} (hb : bytesIn l) (hl : l.length ≤ maxLen) (h : (slook mk most l).2.2 = 0) : 2 ≤ (slook mk most l).2.1 ∧ (slook mk most l).2.1 ≤ l.length := by
  have e := (slook_ok h).1
  rw [e] at h ⊢
  exact fget_two hb hl h
theorem scanF_fuel (mk : Bool) (most : Int) : ∀ (k j : Nat) (l : List Int), bytesIn l → l.length ≤ maxLen → l.length < k → l.length < j → scanF mk most k l = scanF mk most j l := by
  intro k
  induction k with
  | zero => intro j l _ _ h; omega
  | succ k ih =>
    intro j l hb hl hk hj
    cases j with
    | zero => omega
    | succ j =>
      unfold scanF
      by_cases h : (slook mk most l).2.2 = 0
      · rw [if_pos h, if_pos h]
        have h2 := slook_two hb hl h
        rw [ih j (l.drop (slook mk most l).2.1) (hb.drop _) (by rw [List.length_drop]; omega) (by rw [List.length_drop]; omega) (by rw [List.length_drop]; omega)]
      · rw [if_neg h, if_neg h]
theorem scan_eq (mk : Bool) (most : Int) (l : List Int) (hb : bytesIn l) (hl : l.length ≤ maxLen) : scan mk most l =
    if (slook mk most l).2.2 = 0 then ((slook mk most l).1 :: (scan mk most (l.drop (slook mk most l).2.1)).1, (scan mk most (l.drop (slook mk most l).2.1)).2)
    else if (slook mk most l).2.2 = 90 then ([], l, 0) else ([], [], (slook mk most l).2.2) := by
  unfold scan
  conv => lhs; unfold scanF
  by_cases h : (slook mk most l).2.2 = 0
  · rw [if_pos h, if_pos h]
    have h2 := slook_two hb hl h
    rw [scanF_fuel mk most l.length _ (l.drop (slook mk most l).2.1) (hb.drop _) (by rw [List.length_drop]; omega) (by rw [List.length_drop]; omega) (Nat.lt_succ_self _)]
  · rw [if_neg h, if_neg h]
/-- More bytes behind. -/
theorem scan_append (mk : Bool) (most : Int) : ∀ (n : Nat) (a b : List Int), a.length ≤ n → bytesIn (a ++ b) → (a ++ b).length ≤ maxLen →
    ((scan mk most a).2.2 = 0 → scan mk most (a ++ b) = ((scan mk most a).1 ++ (scan mk most ((scan mk most a).2.1 ++ b)).1, (scan mk most ((scan mk most a).2.1 ++ b)).2)) ∧
    ((scan mk most a).2.2 ≠ 0 → scan mk most (a ++ b) = scan mk most a) := by
  intro n
  induction n with
  | zero =>
    intro a b ha hb hl
    obtain rfl : a = [] := List.eq_nil_of_length_eq_zero (by omega)
    have h0 : scan mk most [] = ([], [], 0) := rfl
    rw [h0]
    exact ⟨fun _ => rfl, fun h => absurd rfl h⟩
  | succ n ih =>
    intro a b ha hb hl
    have hba : bytesIn a := fun x hx => hb x (List.mem_append.2 (.inl hx))
    rw [List.length_append] at hl
    have e1 := scan_eq mk most a hba (by omega)
    by_cases h : (slook mk most a).2.2 = 0
    · rw [if_pos h] at e1
      have h2 := slook_two hba (by omega) h
      have hm := slook_mono (mk := mk) (most := most) hb (by omega) (by rw [h]; decide)
      have e2 := scan_eq mk most (a ++ b) hb (by rw [List.length_append]; omega)
      rw [hm, if_pos h, List.drop_append_of_le_length h2.2] at e2
      have hbd : bytesIn (a.drop (slook mk most a).2.1 ++ b) := by
        rw [← List.drop_append_of_le_length h2.2]
        exact hb.drop _
      have := ih (a.drop (slook mk most a).2.1) b (by rw [List.length_drop]; omega) hbd (by rw [List.length_append, List.length_drop]; omega)
      rw [e1, e2]
      simp only
      refine ⟨fun h0 => ?_, fun h0 => ?_⟩
      · rw [this.1 h0]
        rfl
      · rw [this.2 h0]
    · rw [if_neg h] at e1
      by_cases h9 : (slook mk most a).2.2 = 90
      · rw [if_pos h9] at e1
        rw [e1]
        exact ⟨fun _ => rfl, fun h => absurd rfl h⟩
      · rw [if_neg h9] at e1
        have hm := slook_mono (mk := mk) (most := most) hb (by omega) h9
        have e2 := scan_eq mk most (a ++ b) hb (by rw [List.length_append]; omega)
        rw [hm, if_neg h, if_neg h9] at e2
        rw [e1, e2]
        exact ⟨fun h0 => absurd h0 h, fun _ => rfl⟩
end Go.Proofs.Ytpadlcllcmodaaa
