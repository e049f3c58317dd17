/- What whole and begins say of bytes, and what the checker does at them: the plain law. -/
import Derived.Test.YtfafpcmdgjmlhaaVc
namespace Go.Proofs.Ytfafpcmdgjmlhaa
open Go.RowKit
set_option linter.unusedSimpArgs false
set_option linter.unusedVariables false

theorem ufeed_ok_cons {c d : Uc} {b : Int} (hb : c.bad = false) (h : utake c b = (d, true)) (l : List Int) : ufeed c (b :: l) = ((ufeed d l).1, (ufeed d l).2 + 1) := by
  simp only [ufeed, hb, h, Bool.false_eq_true, if_false, if_true]
theorem ufeed_no_cons {c : Uc} {b : Int} (hb : c.bad = false) (h : (utake c b).2 = false) (l : List Int) : (ufeed c (b :: l)).1.bad = true := by
  simp only [ufeed, hb, h, Bool.false_eq_true, if_false]
/-- Between letters. -/
def Uc.ready (c : Uc) : Prop := c.left = 0 ∧ c.bad = false
theorem long3_1 {b : Int} (h : b < 128) : long3 b = 1 := by unfold long3; rw [if_pos h]
theorem long3_2 {b : Int} (h : 192 ≤ b) (h' : b < 224) : long3 b = 2 := by unfold long3; rw [if_neg (by omega), if_pos (by omega)]
theorem long3_3 {b : Int} (h : 224 ≤ b) (h' : b < 240) : long3 b = 3 := by unfold long3; rw [if_neg (by omega), if_neg (by omega), if_pos (by omega)]
theorem long3_4 {b : Int} (h : 240 ≤ b) (h' : b < 248) : long3 b = 4 := by unfold long3; rw [if_neg (by omega), if_neg (by omega), if_neg (by omega), if_pos (by omega)]
theorem long3_0 {b : Int} (h : (128 ≤ b ∧ b < 192) ∨ 248 ≤ b) : long3 b = 0 := by unfold long3; rw [if_neg (by omega), if_neg (by omega), if_neg (by omega), if_neg (by omega)]
theorem whole3_cons (b : Int) (t : List Int) (n : Nat) (hn : long3 b = n) : whole3 (b :: t) = if n = 0 ∨ t.length + 1 < n then 0 else if put3 (vx (b :: t) (b % (256 / pow3 n)) (n - 1)) = some ((b :: t).take n) then n else 0 := by
  subst hn; rfl
theorem begins3_cons (b : Int) (t : List Int) (n : Nat) (hn : long3 b = n) : begins3 (b :: t) = if n ≤ t.length + 1 then false else if conts (b :: t) n then fin3 (bl (b :: t) (b % (256 / pow3 n)) (n - 1)) (bh (b :: t) (b % (256 / pow3 n)) (n - 1)) n else false := by
  subst hn; rfl
theorem fin3_2 (lo hi : Int) : fin3 lo hi 2 = decide (max lo 128 ≤ min hi 2047 ∧ ¬ (55296 ≤ max lo 128 ∧ min hi 2047 ≤ 57343)) := by
  show (decide (max lo 128 ≤ min hi 2047) && !(decide (55296 ≤ max lo 128) && decide (min hi 2047 ≤ 57343))) = _
  rw [Bool.decide_and, decide_not, Bool.decide_and]
theorem fin3_3 (lo hi : Int) : fin3 lo hi 3 = decide (max lo 2048 ≤ min hi 65535 ∧ ¬ (55296 ≤ max lo 2048 ∧ min hi 65535 ≤ 57343)) := by
  show (decide (max lo 2048 ≤ min hi 65535) && !(decide (55296 ≤ max lo 2048) && decide (min hi 65535 ≤ 57343))) = _
  rw [Bool.decide_and, decide_not, Bool.decide_and]
theorem fin3_4 (lo hi : Int) : fin3 lo hi 4 = decide (max lo 65536 ≤ min hi 1114111 ∧ ¬ (55296 ≤ max lo 65536 ∧ min hi 1114111 ≤ 57343)) := by
  show (decide (max lo 65536 ≤ min hi 1114111) && !(decide (55296 ≤ max lo 65536) && decide (min hi 1114111 ≤ 57343))) = _
  rw [Bool.decide_and, decide_not, Bool.decide_and]
/-- Two bytes. -/
theorem whole3_2 (b x : Int) (t : List Int) (h : 192 ≤ b) (h' : b < 224) (x0 : 0 ≤ x) (x1 : x ≤ 255) : whole3 (b :: x :: t) = if 194 ≤ b ∧ 128 ≤ x ∧ x ≤ 191 then 2 else 0 := by
  rw [whole3_cons b _ 2 (long3_2 h h'), if_neg (by simp)]
  have hv : vx (b :: x :: t) (b % (256 / pow3 2)) (2 - 1) = 64 * (b % 32) + x % 64 := rfl
  rw [hv]
  have ht : (b :: x :: t).take 2 = [b, x] := rfl
  rw [ht]
  generalize hV : 64 * (b % 32) + x % 64 = v
  congr 1
  apply propext
  unfold put3
  rw [if_neg (by omega)]
  constructor
  · intro hp
    split at hp
    · simp at hp
    split at hp
    · simp at hp
      omega
    · exfalso; omega
  · intro hp
    rw [if_neg (by omega), if_pos (by omega)]
    simp
    omega
theorem begins3_21 (b : Int) (h : 192 ≤ b) (h' : b < 224) : begins3 [b] = decide (194 ≤ b) := by
  rw [begins3_cons b [] 2 (long3_2 h h'), if_neg (by simp), if_pos (by intro i h1 h2 h3; simp at h3; omega)]
  have e1 : bl [b] (b % (256 / pow3 2)) (2 - 1) = 64 * (b % 32) + 0 := rfl
  have e2 : bh [b] (b % (256 / pow3 2)) (2 - 1) = 64 * (b % 32) + 63 := rfl
  rw [e1, e2]
  rw [fin3_2]
  exact decide_eq_decide.2 (by omega)
/-- Three. -/
def lo3 (b : Int) : Int := if b = 224 then 160 else if b = 240 then 144 else 128
def hi3 (b : Int) : Int := if b = 237 then 159 else if b = 244 then 143 else 191
theorem whole3_3 (b x y : Int) (t : List Int) (h : 224 ≤ b) (h' : b < 240) (x0 : 0 ≤ x) (x1 : x ≤ 255) (y0 : 0 ≤ y) (y1 : y ≤ 255) : whole3 (b :: x :: y :: t) = if lo3 b ≤ x ∧ x ≤ hi3 b ∧ 128 ≤ y ∧ y ≤ 191 then 3 else 0 := by
  rw [whole3_cons b _ 3 (long3_3 h h'), if_neg (by simp)]
  have hv : vx (b :: x :: y :: t) (b % (256 / pow3 3)) (3 - 1) = 64 * (64 * (b % 16) + x % 64) + y % 64 := rfl
  rw [hv]
  have ht : (b :: x :: y :: t).take 3 = [b, x, y] := rfl
  rw [ht]
  generalize hV : 64 * (64 * (b % 16) + x % 64) + y % 64 = v
  congr 1
  apply propext
  unfold put3
  constructor
  · intro hp
    split at hp
    · cases hp
    split at hp
    · simp at hp
    split at hp
    · simp at hp
    split at hp
    · simp at hp
      unfold lo3 hi3
      refine ⟨?_, ?_, ?_, ?_⟩ <;> (repeat' split) <;> omega
    · simp at hp
  · intro hp
    have hp1 : lo3 b ≤ x := hp.1
    have hp2 : x ≤ hi3 b := hp.2.1
    have hlo : 128 ≤ x ∧ (b = 224 → 160 ≤ x) := by unfold lo3 at hp1; split at hp1 <;> (try split at hp1) <;> omega
    have hhi : x ≤ 191 ∧ (b = 237 → x ≤ 159) := by unfold hi3 at hp2; split at hp2 <;> (try split at hp2) <;> omega
    clear hp1 hp2
    rw [if_neg (by omega), if_neg (by omega), if_neg (by omega), if_pos (by omega)]
    simp
    omega
theorem begins3_31 (b : Int) (h : 224 ≤ b) (h' : b < 240) : begins3 [b] = true := by
  rw [begins3_cons b [] 3 (long3_3 h h'), if_neg (by simp), if_pos (by intro i h1 h2 h3; simp at h3; omega)]
  have e1 : bl [b] (b % (256 / pow3 3)) (3 - 1) = 64 * (64 * (b % 16) + 0) + 0 := rfl
  have e2 : bh [b] (b % (256 / pow3 3)) (3 - 1) = 64 * (64 * (b % 16) + 63) + 63 := rfl
  rw [e1, e2]
  rw [fin3_3]
  exact decide_eq_true (by omega)
theorem conts_two (b x : Int) (n : Nat) (hn : 2 ≤ n) : conts [b, x] n ↔ 128 ≤ x ∧ x ≤ 191 := by
  constructor
  · intro h; exact h 1 (by omega) (by omega) (by simp)
  · intro h i h1 h2 h3
    have : i = 1 := by simp at h3; omega
    subst this
    exact h
theorem begins3_32 (b x : Int) (h : 224 ≤ b) (h' : b < 240) (x0 : 0 ≤ x) (x1 : x ≤ 255) : begins3 [b, x] = decide (lo3 b ≤ x ∧ x ≤ hi3 b) := by
  rw [begins3_cons b _ 3 (long3_3 h h'), if_neg (by simp)]
  have e1 : bl [b, x] (b % (256 / pow3 3)) (3 - 1) = 64 * (64 * (b % 16) + (x - 128)) + 0 := rfl
  have e2 : bh [b, x] (b % (256 / pow3 3)) (3 - 1) = 64 * (64 * (b % 16) + (x - 128)) + 63 := rfl
  rw [e1, e2]
  have hlh : (lo3 b ≤ x ∧ x ≤ hi3 b) ↔ (128 ≤ x ∧ x ≤ 191 ∧ (b = 224 → 160 ≤ x) ∧ (b = 237 → x ≤ 159)) := by
    unfold lo3 hi3
    by_cases a1 : b = 224
    · subst a1; simp; omega
    by_cases a2 : b = 237
    · subst a2; simp; omega
    rw [if_neg a1, if_neg a2, if_neg (by omega), if_neg (by omega)]
    omega
  by_cases hc : 128 ≤ x ∧ x ≤ 191
  · rw [if_pos ((conts_two b x 3 (by omega)).2 hc), fin3_3]
    exact decide_eq_decide.2 (by rw [hlh]; omega)
  · rw [if_neg (fun h => hc ((conts_two b x 3 (by omega)).1 h))]
    exact (decide_eq_false (by rw [hlh]; omega)).symm
/-- Four. -/
theorem whole3_4 (b x y z : Int) (t : List Int) (h : 240 ≤ b) (h' : b < 248) (x0 : 0 ≤ x) (x1 : x ≤ 255) (y0 : 0 ≤ y) (y1 : y ≤ 255) (z0 : 0 ≤ z) (z1 : z ≤ 255) : whole3 (b :: x :: y :: z :: t) = if b ≤ 244 ∧ lo3 b ≤ x ∧ x ≤ hi3 b ∧ 128 ≤ y ∧ y ≤ 191 ∧ 128 ≤ z ∧ z ≤ 191 then 4 else 0 := by
  rw [whole3_cons b _ 4 (long3_4 h h'), if_neg (by simp)]
  have hv : vx (b :: x :: y :: z :: t) (b % (256 / pow3 4)) (4 - 1) = 64 * (64 * (64 * (b % 8) + x % 64) + y % 64) + z % 64 := rfl
  rw [hv]
  have ht : (b :: x :: y :: z :: t).take 4 = [b, x, y, z] := rfl
  rw [ht]
  generalize hV : 64 * (64 * (64 * (b % 8) + x % 64) + y % 64) + z % 64 = v
  have hlh : (lo3 b ≤ x ∧ x ≤ hi3 b) ↔ (128 ≤ x ∧ x ≤ 191 ∧ (b = 240 → 144 ≤ x) ∧ (b = 244 → x ≤ 143)) := by
    unfold lo3 hi3
    by_cases a1 : b = 240
    · subst a1; simp; omega
    by_cases a2 : b = 244
    · subst a2; simp; omega
    rw [if_neg (by omega), if_neg a1, if_neg (by omega), if_neg a2]
    omega
  congr 1
  apply propext
  unfold put3
  constructor
  · intro hp
    split at hp
    · cases hp
    split at hp
    · simp at hp
    split at hp
    · simp at hp
    split at hp
    · simp at hp
    · simp at hp
      have h2 : lo3 b ≤ x ∧ x ≤ hi3 b := by rw [hlh]; omega
      omega
  · intro hp
    have h2 := hlh.1 ⟨hp.2.1, hp.2.2.1⟩
    rw [if_neg (by omega), if_neg (by omega), if_neg (by omega), if_neg (by omega)]
    simp
    omega
theorem begins3_41 (b : Int) (h : 240 ≤ b) (h' : b < 248) : begins3 [b] = decide (b ≤ 244) := by
  rw [begins3_cons b [] 4 (long3_4 h h'), if_neg (by simp), if_pos (by intro i h1 h2 h3; simp at h3; omega)]
  have e1 : bl [b] (b % (256 / pow3 4)) (4 - 1) = 64 * (64 * (64 * (b % 8) + 0) + 0) + 0 := rfl
  have e2 : bh [b] (b % (256 / pow3 4)) (4 - 1) = 64 * (64 * (64 * (b % 8) + 63) + 63) + 63 := rfl
  rw [e1, e2, fin3_4]
  exact decide_eq_decide.2 (by omega)
theorem begins3_42 (b x : Int) (h : 240 ≤ b) (h' : b ≤ 244) (x0 : 0 ≤ x) (x1 : x ≤ 255) : begins3 [b, x] = decide (lo3 b ≤ x ∧ x ≤ hi3 b) := by
  rw [begins3_cons b _ 4 (long3_4 h (by omega)), if_neg (by simp)]
  have e1 : bl [b, x] (b % (256 / pow3 4)) (4 - 1) = 64 * (64 * (64 * (b % 8) + (x - 128)) + 0) + 0 := rfl
  have e2 : bh [b, x] (b % (256 / pow3 4)) (4 - 1) = 64 * (64 * (64 * (b % 8) + (x - 128)) + 63) + 63 := rfl
  rw [e1, e2]
  have hlh : (lo3 b ≤ x ∧ x ≤ hi3 b) ↔ (128 ≤ x ∧ x ≤ 191 ∧ (b = 240 → 144 ≤ x) ∧ (b = 244 → x ≤ 143)) := by
    unfold lo3 hi3
    by_cases a1 : b = 240
    · subst a1; simp; omega
    by_cases a2 : b = 244
    · subst a2; simp; omega
    rw [if_neg (by omega), if_neg a1, if_neg (by omega), if_neg a2]
    omega
  by_cases hc : 128 ≤ x ∧ x ≤ 191
  · rw [if_pos ((conts_two b x 4 (by omega)).2 hc), fin3_4]
    exact decide_eq_decide.2 (by rw [hlh]; omega)
  · rw [if_neg (fun h => hc ((conts_two b x 4 (by omega)).1 h))]
    exact (decide_eq_false (by rw [hlh]; omega)).symm
theorem begins3_43 (b x y : Int) (h : 240 ≤ b) (h' : b ≤ 244) (hx : lo3 b ≤ x ∧ x ≤ hi3 b) (y0 : 0 ≤ y) (y1 : y ≤ 255) : begins3 [b, x, y] = decide (128 ≤ y ∧ y ≤ 191) := by
  rw [begins3_cons b _ 4 (long3_4 h (by omega)), if_neg (by simp)]
  have e1 : bl [b, x, y] (b % (256 / pow3 4)) (4 - 1) = 64 * (64 * (64 * (b % 8) + (x - 128)) + (y - 128)) + 0 := rfl
  have e2 : bh [b, x, y] (b % (256 / pow3 4)) (4 - 1) = 64 * (64 * (64 * (b % 8) + (x - 128)) + (y - 128)) + 63 := rfl
  rw [e1, e2]
  have hlh : (lo3 b ≤ x ∧ x ≤ hi3 b) ↔ (128 ≤ x ∧ x ≤ 191 ∧ (b = 240 → 144 ≤ x) ∧ (b = 244 → x ≤ 143)) := by
    unfold lo3 hi3
    by_cases a1 : b = 240
    · subst a1; simp; omega
    by_cases a2 : b = 244
    · subst a2; simp; omega
    rw [if_neg (by omega), if_neg a1, if_neg (by omega), if_neg a2]
    omega
  have hx2 := hlh.1 hx
  by_cases hc : 128 ≤ y ∧ y ≤ 191
  · rw [if_pos (by
      intro i h1 h2 h3
      have : i = 1 ∨ i = 2 := by simp at h3; omega
      rcases this with rfl | rfl
      · exact ⟨hx2.1, hx2.2.1⟩
      · exact hc), fin3_4]
    rw [decide_eq_true hc]
    exact decide_eq_true (by omega)
  · rw [if_neg (fun h => hc (h 2 (by omega) (by omega) (by simp)))]
    exact (decide_eq_false hc).symm
end Go.Proofs.Ytfafpcmdgjmlhaa
