/- Plain laws of frames: what is known of a beginning; the bytes of a frame that is got. -/
import Derived.Test.YtpadlcllcmodaaaY16
/- Plain laws of frames: what is known of a beginning; the bytes of a frame that is got. -/
namespace Go.Proofs.Ytpadlcllcmodaaa
open Go.RowKit
set_option linter.unusedSimpArgs false
set_option linter.unusedVariables false

theorem getD_mono {l r : List Int} (h : bytesIn (l ++ r)) (k : Nat) : l.getD k 0 ≤ (l ++ r).getD k 0 ∧ (l ++ r).getD k 255 ≤ l.getD k 255 := by
  have h1 := getD_in h 0 (by omega) k
  have h2 := getD_in h 255 (by omega) k
  simp only [List.getD_eq_getElem?_getD] at h1 h2 ⊢
  by_cases hk : k < l.length
  · rw [List.getElem?_append_left hk]; exact ⟨Int.le_refl _, Int.le_refl _⟩
  · rw [List.getElem?_eq_none (l := l) (by omega)]
    exact ⟨h1.1, h2.2⟩
theorem numB_mono {l r : List Int} (h : bytesIn (l ++ r)) (k : Nat) : numB 0 l k ≤ numB 0 (l ++ r) k ∧ numB 255 (l ++ r) k ≤ numB 255 l k := by
  induction k with
  | zero => exact ⟨Int.le_refl _, Int.le_refl _⟩
  | succ k ih =>
    have := getD_mono h k
    simp only [numB]
    omega
theorem getSize_mono {b r : List Int} (hb : bytesIn (b ++ r)) (h0 : b ≠ []) (size : Nat) (lo hi : Int) (he : (getSize b size lo hi).2.2 ≠ 80) : getSize (b ++ r) size lo hi = getSize b size lo hi := by
  by_cases hl : b.length < 1 + size
  · have hpos : 1 ≤ b.length := by cases b with | nil => exact absurd rfl h0 | cons => simp
    have hw : (b.take (1 + size)).drop 1 = b.drop 1 := by rw [List.take_of_length_le (by omega)]
    have hw2 : ((b ++ r).take (1 + size)).drop 1 = b.drop 1 ++ r.take (1 + size - b.length) := by
      rw [List.take_append, List.take_of_length_le (by omega), List.drop_append_of_le_length hpos]
    have hin : bytesIn (b.drop 1 ++ r.take (1 + size - b.length)) := by
      intro x hx
      rcases List.mem_append.1 hx with h | h
      · exact hb x (List.mem_append.2 (.inl (List.mem_of_mem_drop h)))
      · exact hb x (List.mem_append.2 (.inr (List.mem_of_mem_take h)))
    have hm := numB_mono hin size
    unfold getSize at he ⊢
    rw [hw] at he ⊢
    rw [hw2]
    by_cases h1 : numB 255 (b.drop 1) size < lo ∨ hi < numB 0 (b.drop 1) size
    · rw [if_pos h1, if_pos (by omega)]
    · rw [if_neg h1, if_pos hl] at he
      exact absurd rfl he
  · have hw : ((b ++ r).take (1 + size)) = b.take (1 + size) := List.take_append_of_le_length (by omega)
    unfold getSize
    rw [hw, if_neg hl]
    by_cases h1 : numB 255 ((b.take (1 + size)).drop 1) size < lo ∨ hi < numB 0 ((b.take (1 + size)).drop 1) size
    · rw [if_pos h1, if_pos h1]
    · rw [if_neg h1, if_neg h1, if_neg (by rw [List.length_append]; omega)]
theorem getD0_append {b r : List Int} (h0 : b ≠ []) (d : Int) : (b ++ r).getD 0 d = b.getD 0 d := by
  cases b with
  | nil => exact absurd rfl h0
  | cons x t => rfl
theorem getLen_mono {b r : List Int} (hb : bytesIn (b ++ r)) (he : (getLen b).2.2 ≠ 80) : getLen (b ++ r) = getLen b := by
  by_cases h0 : b = []
  · subst h0; exact absurd rfl he
  · unfold getLen at he ⊢
    rw [if_neg h0] at he ⊢
    rw [if_neg (by simp [h0]), getD0_append h0]
    by_cases h1 : b.getD 0 0 % 128 = 126
    · rw [if_pos h1] at he ⊢
      rw [if_pos h1, getSize_mono hb h0 _ _ _ he]
    · rw [if_neg h1] at he ⊢
      rw [if_neg h1]
      by_cases h2 : b.getD 0 0 % 128 = 127
      · rw [if_pos h2] at he ⊢
        rw [if_pos h2, getSize_mono hb h0 _ _ _ he]
      · rw [if_neg h2, if_neg h2]
theorem fdata_mono {l r : List Int} (fin : Bool) (op : Int) (m : Bool) (K : List Int) (n : Int) (at_ : Nat) (hn : 0 ≤ n) (ha : at_ ≤ l.length) (he : (fdata l fin op m K n at_).2.2 ≠ 90) : fdata (l ++ r) fin op m K n at_ = fdata l fin op m K n at_ := by
  unfold fdata at he ⊢
  by_cases h : ((l.length - at_ : Nat) : Int) < n
  · rw [if_pos h] at he; exact absurd rfl he
  · rw [if_neg h, if_neg (by rw [List.length_append]; omega), List.drop_append_of_le_length ha, List.take_append_of_le_length (by rw [List.length_drop]; omega)]
theorem getD1_append {l : List Int} (r : List Int) (h : 1 < l.length) : (l ++ r).getD 1 0 = l.getD 1 0 := by
  rw [List.getD_eq_getElem?_getD, List.getD_eq_getElem?_getD, List.getElem?_append_left h]
/-- What is known of a beginning stays so. -/
theorem fget_mono {l r : List Int} (hb : bytesIn (l ++ r)) (most : Int) (he : (fget l most).2.2 ≠ 90) : fget (l ++ r) most = fget l most := by
  have hbl : bytesIn l := fun x hx => hb x (List.mem_append.2 (.inl hx))
  by_cases h0 : l = []
  · subst h0; exact absurd rfl he
  have hpos : 1 ≤ l.length := by cases l with | nil => exact absurd rfl h0 | cons => simp
  unfold fget at he ⊢
  rw [if_neg h0] at he ⊢
  rw [if_neg (by simp [h0]), getD0_append h0]
  by_cases hbad : l.getD 0 0 / 16 % 8 ≠ 0 ∨ known9 (l.getD 0 0 % 16) = false ∨ (control9 (l.getD 0 0 % 16) = true ∧ (l.getD 0 0 < 128 ∨ (1 < l.length ∧ 125 < l.getD 1 0 % 128)))
  · rw [if_pos hbad]
    rw [if_pos]
    rcases hbad with h | h | ⟨h, h2⟩
    · exact .inl h
    · exact .inr (.inl h)
    · refine .inr (.inr ⟨h, ?_⟩)
      rcases h2 with h2 | ⟨h2, h3⟩
      · exact .inl h2
      · exact .inr ⟨by rw [List.length_append]; omega, by rw [getD1_append r h2]; exact h3⟩
  · rw [if_neg hbad] at he ⊢
    unfold flen at he ⊢
    have hd : (l ++ r).drop 1 = l.drop 1 ++ r := List.drop_append_of_le_length hpos
    have hbd : bytesIn (l.drop 1 ++ r) := by rw [← hd]; exact hb.drop 1
    by_cases hG : (getLen (l.drop 1)).2.2 = 80
    · simp only at he
      rw [hG] at he
      exact absurd rfl he
    · have hm := getLen_mono hbd hG
      have hl1 : 1 < l.length := by
        rcases Nat.lt_or_ge 1 l.length with h | h
        · exact h
        · have : l.drop 1 = [] := List.eq_nil_of_length_eq_zero (by simp; omega)
          rw [this] at hG
          exact absurd rfl hG
      rw [if_neg (by
        rintro (h | h | ⟨h, h2⟩)
        · exact hbad (.inl h)
        · exact hbad (.inr (.inl h))
        · refine hbad (.inr (.inr ⟨h, ?_⟩))
          rcases h2 with h2 | ⟨h2, h3⟩
          · exact .inl h2
          · exact .inr ⟨hl1, by rw [getD1_append r hl1] at h3; exact h3⟩)]
      rw [hd, hm]
      simp only at he ⊢
      rcases getLen_cases (hbl.drop 1) with h | h | ⟨n, k, h, h1, h2, h3, h4, h5⟩
      · rw [h] at hG; exact absurd rfl hG
      · rw [h]; rfl
      · rw [h] at he ⊢
        simp only at he ⊢
        have e81 : ¬ ((0 : Int) = 81) := by decide
        have e0 : ¬ ((0 : Int) ≠ 0) := by decide
        simp only [if_neg e81, if_neg e0] at he ⊢
        rw [List.length_drop] at h5
        by_cases hmo : most < 0 ∨ most < n
        · rw [if_pos hmo, if_pos hmo]
        · rw [if_neg hmo] at he ⊢
          rw [if_neg hmo]
          unfold fmask at he ⊢
          rw [getD1_append r hl1]
          by_cases hv : 128 ≤ l.getD 1 0
          · rw [if_pos hv] at he ⊢
            rw [if_pos hv]
            by_cases hs : l.length < 1 + k + 4
            · rw [if_pos hs] at he; exact absurd rfl he
            · rw [if_neg hs] at he ⊢
              rw [if_neg (by rw [List.length_append]; omega)]
              have hk4 : ((l ++ r).drop (1 + k)).take 4 = (l.drop (1 + k)).take 4 := by
                rw [List.drop_append_of_le_length (by omega), List.take_append_of_le_length (by rw [List.length_drop]; omega)]
              rw [hk4]
              exact fdata_mono _ _ _ _ _ _ h1 (by omega) he
          · rw [if_neg hv] at he ⊢
            rw [if_neg hv]
            exact fdata_mono _ _ _ _ _ _ h1 (by omega) he

theorem numB_div {l : List Int} (h : bytesIn l) (d : Int) (hd : 0 ≤ d ∧ d ≤ 255) (m : Nat) : ∀ j, j ≤ m → numB d l m / 256 ^ j = numB d l (m - j) := by
  intro j
  induction j with
  | zero => intro _; simp
  | succ j ih =>
    intro hj
    have h1 := ih (by omega)
    have h2 : m - j = (m - (j + 1)) + 1 := by omega
    have h3 := getD_in h d hd (m - (j + 1))
    rw [Int.pow_succ, ← Int.ediv_ediv_of_nonneg (by exact Int.pow_nonneg (by omega)), h1, h2]
    simp only [numB]
    omega
theorem be_numB {l : List Int} (h : bytesIn l) (d : Int) (hd : 0 ≤ d ∧ d ≤ 255) (m : Nat) (hm : m ≤ l.length) : be m (numB d l m).toNat = l.take m := by
  apply List.ext_getElem
  · rw [be_length, List.length_take]; omega
  · intro i h1 h2
    rw [be_length] at h1
    have hb := numB_bound h d hd m
    simp only [be, List.getElem_map, List.getElem_range, List.getElem_take]
    have h3 := numB_div h d hd m (m - 1 - i) (by omega)
    have h4 : m - (m - 1 - i) = i + 1 := by omega
    rw [h4] at h3
    simp only [numB] at h3
    have h5 := getD_in h d hd i
    have h6 : l.getD i d = l[i] := by rw [List.getD_eq_getElem?_getD, List.getElem?_eq_getElem (by omega)]; rfl
    rw [h6] at h3 h5
    have h7 : (((numB d l m).toNat / 256 ^ (m - 1 - i) : Nat) : Int) = numB d l m / 256 ^ (m - 1 - i) := by
      rw [Int.natCast_ediv]
      rw [show (((numB d l m).toNat : Nat) : Int) = numB d l m from by omega]
      congr 1
      try simp
    rw [Int.natCast_emod, h7, h3]
    omega
theorem take_drop_one (b : List Int) (size : Nat) (x : Int) (t : List Int) (hb : b = x :: t) : (b.take (1 + size)).drop 1 = t.take size := by
  subst hb
  rw [show 1 + size = size + 1 from by omega, List.take_succ_cons, List.drop_succ_cons, List.drop_zero]
/-- The bytes of a length that is got. -/
theorem getLen_back {b : List Int} (hb : bytesIn b) {n : Int} {k : Nat} (h : getLen b = (n, k, 0)) :
    0 ≤ n ∧ n ≤ 9223372036854775807 ∧ k = (lenB n.toNat).length ∧ k ≤ b.length ∧ b.take k = (if 128 ≤ b.getD 0 0 then (lenB n.toNat).set 0 ((lenB n.toNat).getD 0 0 + 128) else lenB n.toNat) := by
  rcases getLen_cases hb with h' | h' | ⟨n', k', h', h1, h2, h3, h4, h5⟩
  · rw [h'] at h; injection h with h _; injection ‹_› with _ h; cases h
  · rw [h'] at h; injection h with h _; injection ‹_› with _ h; cases h
  rw [h] at h'
  injection h' with ha hb'
  injection hb' with hb' _
  subst ha hb'
  refine ⟨h1, h2, ?_⟩
  unfold getLen at h
  rcases b with _ | ⟨x, t⟩
  · simp at h
  have hx := hb x (by simp)
  have ht : bytesIn t := fun y hy => hb y (by simp [hy])
  rw [if_neg (by simp), List.getD_cons_zero] at h
  rw [List.getD_cons_zero]
  have hsz : ∀ (size : Nat) (lo hi : Int), getSize (x :: t) size lo hi = (n, k, 0) → numB 0 (t.take size) size = n ∧ lo ≤ numB 255 (t.take size) size ∧ n ≤ hi ∧ k = 1 + size ∧ size ≤ t.length := by
    intro size lo hi hg
    unfold getSize at hg
    rw [take_drop_one _ size x t rfl] at hg
    split at hg
    · injection hg with h _; injection ‹_› with _ h; cases h
    · rename_i hno
      split at hg
      · injection hg with h _; injection ‹_› with _ h; cases h
      · rename_i hno2
        injection hg with hg1 hg2
        injection hg2 with hg2 _
        simp at hno2
        exact ⟨hg1, by omega, by omega, by omega, by omega⟩
  have heq : ∀ size, size ≤ t.length → numB 255 (t.take size) size = numB 0 (t.take size) size := by
    intro size hs
    have : ∀ j, j ≤ size → numB 255 (t.take size) j = numB 0 (t.take size) j := by
      intro j
      induction j with
      | zero => intro _; rfl
      | succ j ih =>
        intro hj
        simp only [numB]
        rw [ih (by omega), List.getD_eq_getElem?_getD, List.getD_eq_getElem?_getD, List.getElem?_eq_getElem (by rw [List.length_take]; omega)]
        rfl
    exact this size (Nat.le_refl _)
  have hbe : ∀ size, size ≤ t.length → be size (numB 0 (t.take size) size).toNat = t.take size := by
    intro size hs
    rw [be_numB (ht.take size) 0 (by omega) size (by rw [List.length_take]; omega), List.take_of_length_le (by rw [List.length_take]; omega)]
  by_cases h26 : x % 128 = 126
  · rw [if_pos h26] at h
    obtain ⟨g1, g2, g3, g4, g5⟩ := hsz _ _ _ h
    rw [heq _ g5, g1] at g2
    have hB : lenB n.toNat = 126 :: t.take 2 := by
      unfold lenB
      rw [if_neg (by omega), if_pos (by omega), ← hbe 2 g5, g1]
    rw [hB]
    refine ⟨by rw [g4]; simp; omega, by rw [g4]; simp; omega, ?_⟩
    rw [g4, show 1 + 2 = 2 + 1 from rfl, List.take_succ_cons]
    by_cases h128 : 128 ≤ x
    · rw [if_pos h128]; simp; omega
    · rw [if_neg h128]; simp; omega
  · rw [if_neg h26] at h
    by_cases h27 : x % 128 = 127
    · rw [if_pos h27] at h
      obtain ⟨g1, g2, g3, g4, g5⟩ := hsz _ _ _ h
      rw [heq _ g5, g1] at g2
      have hB : lenB n.toNat = 127 :: t.take 8 := by
        unfold lenB
        rw [if_neg (by omega), if_neg (by omega), ← hbe 8 g5, g1]
      rw [hB]
      refine ⟨by rw [g4]; simp; omega, by rw [g4]; simp; omega, ?_⟩
      rw [g4, show 1 + 8 = 8 + 1 from rfl, List.take_succ_cons]
      by_cases h128 : 128 ≤ x
      · rw [if_pos h128]; simp; omega
      · rw [if_neg h128]; simp; omega
    · rw [if_neg h27] at h
      injection h with g1 g2
      injection g2 with g2 _
      have hB : lenB n.toNat = [n] := by
        unfold lenB
        rw [if_pos (by omega), show ((n.toNat : Nat) : Int) = n from by omega]
      rw [hB, ← g2]
      refine ⟨rfl, by simp, ?_⟩
      rw [List.take_succ_cons, List.take_zero]
      by_cases h128 : 128 ≤ x
      · rw [if_pos h128]; simp; omega
      · rw [if_neg h128]; simp; omega
end Go.Proofs.Ytpadlcllcmodaaa
