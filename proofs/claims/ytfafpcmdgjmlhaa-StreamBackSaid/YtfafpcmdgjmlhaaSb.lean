/- ref08: Get. -/
import Derived.Test.YtfafpcmdgjmlhaaSa
namespace Go.Proofs.Ytfafpcmdgjmlhaa
open Go.RowKit
set_option linter.unusedSimpArgs false
set_option linter.unusedVariables false

theorem numB_take (d : Int) (t : List Int) (m : Nat) : ∀ k, k ≤ m → numB d (t.take m) k = numB d t k := by
  intro k
  induction k with
  | zero => intro _; rfl
  | succ k ih =>
    intro hk
    simp only [numB]
    rw [ih (by omega), List.getD_eq_getElem?_getD, List.getD_eq_getElem?_getD, List.getElem?_take, if_pos (by omega)]
theorem getD_either (t : List Int) (i : Nat) : (i < t.length ∧ t.getD i 255 = t.getD i 0) ∨ (t.length ≤ i ∧ t.getD i 0 = 0 ∧ t.getD i 255 = 255) := by
  by_cases h : i < t.length
  · left
    refine ⟨h, ?_⟩
    rw [List.getD_eq_getElem?_getD, List.getD_eq_getElem?_getD, List.getElem?_eq_getElem h]
    rfl
  · right
    refine ⟨by omega, ?_, ?_⟩ <;> rw [List.getD_eq_getElem?_getD, List.getElem?_eq_none (by omega)] <;> rfl
theorem getSize_cons (x : Int) (t : List Int) (size : Nat) (lo hi : Int) : getSize (x :: t) size lo hi =
    if numB 255 t size < lo ∨ hi < numB 0 t size then (0, 0, 81) else if t.length < size then (0, 0, 80) else (numB 0 t size, 1 + size, 0) := by
  unfold getSize
  rw [take_drop_one _ size x t rfl, numB_take _ _ _ _ (Nat.le_refl _), numB_take _ _ _ _ (Nat.le_refl _)]
  have : ((x :: t).length < 1 + size) = (t.length < size) := by simp; omega
  simp only [this]
/-- What the loop over eight bytes knows so far. -/
def far8 (t : List Int) (k : Nat) : Prop := (1 ≤ k → t.getD 0 0 < 128) ∧ (6 ≤ k → numB 0 t 6 ≠ 0)
theorem get8_more {t : List Int} (ht : bytesIn t) (x : Int) (k : Nat) (hk : k < 8) (hl : t.length = k) (hf : far8 t k) : getSize (x :: t) 8 65536 9223372036854775807 = (0, 0, 80) := by
  rw [getSize_cons]
  have g0 := getD_in ht 0 (by omega) 0
  have g1 := getD_in ht 0 (by omega) 1
  have g2 := getD_in ht 0 (by omega) 2
  have g3 := getD_in ht 0 (by omega) 3
  have g4 := getD_in ht 0 (by omega) 4
  have g5 := getD_in ht 0 (by omega) 5
  have g6 := getD_in ht 0 (by omega) 6
  have g7 := getD_in ht 0 (by omega) 7
  have e0 := getD_either t 0
  have e1 := getD_either t 1
  have e2 := getD_either t 2
  have e3 := getD_either t 3
  have e4 := getD_either t 4
  have e5 := getD_either t 5
  have e6 := getD_either t 6
  have e7 := getD_either t 7
  obtain ⟨f1, f2⟩ := hf
  have hc : ¬ (numB 255 t 8 < 65536 ∨ 9223372036854775807 < numB 0 t 8) := by
    simp only [numB] at f2 ⊢
    rcases k with _ | _ | _ | _ | _ | _ | _ | _ | k
    all_goals omega
  rw [if_neg hc, if_pos (by omega)]
theorem get8_high {t : List Int} (ht : bytesIn t) (x : Int) (hl : 0 < t.length) (h : 128 ≤ t.getD 0 0) : getSize (x :: t) 8 65536 9223372036854775807 = (0, 0, 81) := by
  rw [getSize_cons]
  refine if_pos (.inr ?_)
  have g1 := getD_in ht 0 (by omega) 1
  have g2 := getD_in ht 0 (by omega) 2
  have g3 := getD_in ht 0 (by omega) 3
  have g4 := getD_in ht 0 (by omega) 4
  have g5 := getD_in ht 0 (by omega) 5
  have g6 := getD_in ht 0 (by omega) 6
  have g7 := getD_in ht 0 (by omega) 7
  simp only [numB]
  omega
theorem get8_low {t : List Int} (ht : bytesIn t) (x : Int) (hl : 6 ≤ t.length) (h : numB 0 t 6 = 0) : getSize (x :: t) 8 65536 9223372036854775807 = (0, 0, 81) := by
  rw [getSize_cons]
  refine if_pos (.inl ?_)
  have e0 := getD_either t 0
  have e1 := getD_either t 1
  have e2 := getD_either t 2
  have e3 := getD_either t 3
  have e4 := getD_either t 4
  have e5 := getD_either t 5
  have e6 := getD_in ht 255 (by omega) 6
  have e7 := getD_in ht 255 (by omega) 7
  simp only [numB] at h ⊢
  omega
theorem get8_ok {t : List Int} (ht : bytesIn t) (x : Int) (hl : 8 ≤ t.length) (hf : far8 t 8) : getSize (x :: t) 8 65536 9223372036854775807 = (numB 0 t 8, 9, 0) := by
  rw [getSize_cons]
  have g0 := getD_in ht 0 (by omega) 0
  have g1 := getD_in ht 0 (by omega) 1
  have g2 := getD_in ht 0 (by omega) 2
  have g3 := getD_in ht 0 (by omega) 3
  have g4 := getD_in ht 0 (by omega) 4
  have g5 := getD_in ht 0 (by omega) 5
  have g6 := getD_in ht 0 (by omega) 6
  have g7 := getD_in ht 0 (by omega) 7
  have e0 := getD_either t 0
  have e1 := getD_either t 1
  have e2 := getD_either t 2
  have e3 := getD_either t 3
  have e4 := getD_either t 4
  have e5 := getD_either t 5
  have e6 := getD_either t 6
  have e7 := getD_either t 7
  obtain ⟨f1, f2⟩ := hf
  have f3 := f1 (by omega)
  have f4 := f2 (by omega)
  have hc : ¬ (numB 255 t 8 < 65536 ∨ 9223372036854775807 < numB 0 t 8) := by
    simp only [numB] at f4 ⊢
    omega
  rw [if_neg hc, if_neg (by omega)]
theorem get2_more {t : List Int} (ht : bytesIn t) (x : Int) (k : Nat) (hk : k < 2) (hl : t.length = k) : getSize (x :: t) 2 126 65535 = (0, 0, 80) := by
  rw [getSize_cons]
  have g0 := getD_in ht 0 (by omega) 0
  have g1 := getD_in ht 0 (by omega) 1
  have e0 := getD_either t 0
  have e1 := getD_either t 1
  have hc : ¬ (numB 255 t 2 < 126 ∨ 65535 < numB 0 t 2) := by
    simp only [numB]
    omega
  rw [if_neg hc, if_pos (by omega)]
theorem get2_low {t : List Int} (ht : bytesIn t) (x : Int) (hl : 2 ≤ t.length) (h : numB 0 t 2 < 126) : getSize (x :: t) 2 126 65535 = (0, 0, 81) := by
  rw [getSize_cons]
  refine if_pos (.inl ?_)
  have e0 := getD_either t 0
  have e1 := getD_either t 1
  simp only [numB] at h ⊢
  omega
theorem get2_ok {t : List Int} (ht : bytesIn t) (x : Int) (hl : 2 ≤ t.length) (h : 126 ≤ numB 0 t 2) : getSize (x :: t) 2 126 65535 = (numB 0 t 2, 3, 0) := by
  rw [getSize_cons]
  have g0 := getD_in ht 0 (by omega) 0
  have g1 := getD_in ht 0 (by omega) 1
  have e0 := getD_either t 0
  have e1 := getD_either t 1
  have hc : ¬ (numB 255 t 2 < 126 ∨ 65535 < numB 0 t 2) := by
    simp only [numB] at h ⊢
    omega
  rw [if_neg hc, if_neg (by omega)]
end Go.Proofs.Ytfafpcmdgjmlhaa
