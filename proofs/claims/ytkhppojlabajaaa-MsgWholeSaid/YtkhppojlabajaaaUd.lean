/- Strings as bytes, and what a beginning of bytes comes to. -/
import Derived.Test.YtkhppojlabajaaaUc
namespace Go.Proofs.Ytkhppojlabajaaa
open Go.RowKit
set_option linter.unusedSimpArgs false
set_option linter.unusedVariables false

/-- Behind a beginning. -/
theorem ufeed_take (l : List Int) : ∀ (c : Uc) (i : Nat), c.bad = false → (ufeed c (l.take i)).2 = min (min i l.length) (ufeed c l).2 ∧ ((ufeed c (l.take i)).1.bad = true ↔ (ufeed c l).2 < min i l.length) := by
  induction l with
  | nil => intro c i hb; simp [ufeed, hb]
  | cons b l ih =>
    intro c i hb
    cases i with
    | zero => simp [ufeed, hb]
    | succ i =>
      rw [List.take_succ_cons]
      cases ht : (utake c b).2
      · simp [ufeed, hb, ht]
      · have hb' : (utake c b).1.bad = false := by
          unfold utake ubegin
          repeat (first | split | exact hb)
        obtain ⟨h1, h2⟩ := ih (utake c b).1 i hb'
        simp only [ufeed, hb, ht, if_true, Bool.false_eq_true, if_false]
        constructor
        · rw [h1]; simp only [List.length_cons]; omega
        · rw [h2]; simp only [List.length_cons]; omega
theorem utake_bad (c : Uc) (b : Int) : (utake c b).1.bad = c.bad := by
  unfold utake ubegin
  repeat (first | split | rfl)
theorem ufeed_bad (l : List Int) : ∀ (c : Uc), c.bad = false → ((ufeed c l).1.bad = true ↔ (ufeed c l).2 < l.length) := by
  intro c hb
  have := (ufeed_take l c l.length hb).2
  simpa using this
/-- Bytes behind bytes. -/
theorem ufeed_append (a b : List Int) : ∀ (c : Uc), (ufeed c (a ++ b)).1 = (ufeed (ufeed c a).1 b).1 ∧ (ufeed c (a ++ b)).2 = (ufeed c a).2 + (ufeed (ufeed c a).1 b).2 := by
  induction a with
  | nil => intro c; simp [ufeed]
  | cons x a ih =>
    intro c
    cases hb : c.bad
    · cases ht : (utake c x).2
      · have hB : ∀ (d : Uc) (l : List Int), d.bad = true → ufeed d l = (d, 0) := fun d l hd => by cases l <;> simp [ufeed, hd]
        simp only [List.cons_append, ufeed, hb, ht, Bool.false_eq_true, if_false]
        rw [hB _ b rfl]
        exact ⟨rfl, rfl⟩
      · obtain ⟨h1, h2⟩ := ih (utake c x).1
        simp only [List.cons_append, ufeed, hb, ht, if_true, Bool.false_eq_true, if_false]
        rw [h1, h2]
        exact ⟨rfl, by omega⟩
    · have hB : ∀ (d : Uc) (l : List Int), d.bad = true → ufeed d l = (d, 0) := fun d l hd => by cases l <;> simp [ufeed, hd]
      rw [hB c _ hb, hB c _ hb]
      rw [hB c _ hb]
      exact ⟨rfl, rfl⟩

/-- The contracts, at a length that is written otherwise. -/
theorem u_feedn (g : Nat) (c : Uc) (A : Option Addr) (l : List Int) (n cap : Nat) (hn : l.length = n) (w : World) (h : IsU w g c) (hok : c.ok) (hr : Rd w A (u8s l)) (hb : bytesIn l) (hA : ∀ a, A = some a → a.block ≠ g) (hc : c.count + n ≤ 4611686018427387904) :
    Calls Try.prog 64 #[.pointer (some ⟨g, 0, none⟩), .slice A n cap] w fun e w' => e = .returned (.int .i64 (ufeed c l).2) ∧ IsU w' g (ufeed c l).1 ∧ Touch (At g) w w' := by
  subst hn
  exact u_feed g c A l cap w h hok hr hb hA hc
theorem u_countn (A : Option Addr) (l : List Int) (n cap : Nat) (hn : l.length = n) (w : World) (hr : Rd w A (u8s l)) (hb : bytesIn l) (hA : ∀ a, A = some a → a.block < w.heap.size) (hl : n ≤ 4611686018427387904) :
    Calls Try.prog 78 #[.slice A n cap] w fun e w' => e = .returned (.tuple #[.int .i64 (ucount l).1, .bool (ucount l).2]) ∧ Touch NoS w w' := by
  subst hn
  exact u_count A l cap w hr hb hA hl
theorem u_validn (A : Option Addr) (l : List Int) (n cap : Nat) (hn : l.length = n) (w : World) (hr : Rd w A (u8s l)) (hb : bytesIn l) (hA : ∀ a, A = some a → a.block < w.heap.size) (hl : n ≤ 4611686018427387904) :
    Calls Try.prog 74 #[.slice A n cap] w fun e w' => e = .returned (.bool (ucount l).2) ∧ Touch NoS w w' := by
  subst hn
  exact u_valid A l cap w hr hb hA hl
/-- At a new row. -/
theorem u_feedc (g : Nat) (c : Uc) (s : ByteArray) (n cap : Nat) (hn : s.size = n) (w : World) (h : IsU w g c) (hok : c.ok) (hc : c.count + n ≤ 4611686018427387904) :
    Calls Try.prog 64 #[.pointer (some ⟨g, 0, none⟩), .slice (some ⟨w.heap.size, 0, none⟩) n cap] (Lib.bytesWorld w 5 s) fun e w' => e = .returned (.int .i64 (ufeed c (sb s)).2) ∧ IsU w' g (ufeed c (sb s)).1 ∧ Touch (At g) w w' :=
  (u_feedn g c _ (sb s) n cap (by rw [sb_length]; exact hn) _ (h.no (conv_touch _ _ _)) hok (conv_rd _ _ _) (sb_in s) (by intro a ha; injection ha with ha; subst ha; have := h.lt; show w.heap.size ≠ g; omega) hc).mono
    fun e w' ⟨h1, h2, h3⟩ => ⟨h1, h2, (conv_touch w 5 s).of_no.trans h3⟩
theorem u_countc (s : ByteArray) (n cap : Nat) (hn : s.size = n) (w : World) (hl : n ≤ 4611686018427387904) :
    Calls Try.prog 78 #[.slice (some ⟨w.heap.size, 0, none⟩) n cap] (Lib.bytesWorld w 5 s) fun e w' => e = .returned (.tuple #[.int .i64 (ucount (sb s)).1, .bool (ucount (sb s)).2]) ∧ Touch NoS w w' :=
  (u_countn _ (sb s) n cap (by rw [sb_length]; exact hn) _ (conv_rd _ _ _) (sb_in s) (by intro a ha; injection ha with ha; subst ha; rw [Lib.bytesWorld_size]; show w.heap.size < _; omega) hl).mono
    fun e w' ⟨h1, h3⟩ => ⟨h1, (conv_touch w 5 s).trans h3⟩
theorem u_validc (s : ByteArray) (n cap : Nat) (hn : s.size = n) (w : World) (hl : n ≤ 4611686018427387904) :
    Calls Try.prog 74 #[.slice (some ⟨w.heap.size, 0, none⟩) n cap] (Lib.bytesWorld w 5 s) fun e w' => e = .returned (.bool (ucount (sb s)).2) ∧ Touch NoS w w' :=
  (u_validn _ (sb s) n cap (by rw [sb_length]; exact hn) _ (conv_rd _ _ _) (sb_in s) (by intro a ha; injection ha with ha; subst ha; rw [Lib.bytesWorld_size]; show w.heap.size < _; omega) hl).mono
    fun e w' ⟨h1, h3⟩ => ⟨h1, (conv_touch w 5 s).trans h3⟩
end Go.Proofs.Ytkhppojlabajaaa
