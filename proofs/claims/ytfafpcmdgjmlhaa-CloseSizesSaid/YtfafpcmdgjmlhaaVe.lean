/- The checker at a letter, and at what begins one: the plain law. -/
import Derived.Test.YtfafpcmdgjmlhaaVd
namespace Go.Proofs.Ytfafpcmdgjmlhaa
open Go.RowKit
set_option linter.unusedSimpArgs false
set_option linter.unusedVariables false

theorem ut_1 {c : Uc} (h : c.ready) {b : Int} (hb : b < 128) : utake c b = (⟨0, 128, 191, c.count + 1, false⟩, true) := by
  obtain ⟨h1, h2⟩ := h
  unfold utake ubegin
  rw [if_pos h1, if_pos hb, h1, h2]
theorem ut_2 {c : Uc} (h : c.ready) {b : Int} (hb : 194 ≤ b) (hb' : b ≤ 223) : utake c b = (⟨1, 128, 191, c.count, false⟩, true) := by
  obtain ⟨h1, h2⟩ := h
  unfold utake ubegin
  rw [if_pos h1, if_neg (by omega), if_pos (by omega), h2]
theorem ut_3 {c : Uc} (h : c.ready) {b : Int} (hb : 224 ≤ b) (hb' : b ≤ 239) : utake c b = (⟨2, lo3 b, hi3 b, c.count, false⟩, true) := by
  obtain ⟨h1, h2⟩ := h
  have e1 : lo3 b = if b = 224 then 160 else 128 := by
    unfold lo3
    by_cases a : b = 224
    · rw [if_pos a, if_pos a]
    · rw [if_neg a, if_neg a, if_neg (by omega)]
  have e2 : hi3 b = if b = 237 then 159 else 191 := by
    unfold hi3
    by_cases a : b = 237
    · rw [if_pos a, if_pos a]
    · rw [if_neg a, if_neg a, if_neg (by omega)]
  unfold utake ubegin
  rw [if_pos h1, if_neg (by omega), if_neg (by omega), if_pos (by omega), h2, e1, e2]
theorem ut_4 {c : Uc} (h : c.ready) {b : Int} (hb : 240 ≤ b) (hb' : b ≤ 244) : utake c b = (⟨3, lo3 b, hi3 b, c.count, false⟩, true) := by
  obtain ⟨h1, h2⟩ := h
  have e1 : lo3 b = if b = 240 then 144 else 128 := by unfold lo3; rw [if_neg (by omega)]
  have e2 : hi3 b = if b = 244 then 143 else 191 := by unfold hi3; rw [if_neg (by omega)]
  unfold utake ubegin
  rw [if_pos h1, if_neg (by omega), if_neg (by omega), if_neg (by omega), if_pos (by omega), h2, e1, e2]
theorem ut_no {c : Uc} (h : c.ready) {b : Int} (hb : (128 ≤ b ∧ b < 194) ∨ 245 ≤ b) : (utake c b).2 = false := by
  obtain ⟨h1, h2⟩ := h
  unfold utake ubegin
  rw [if_pos h1, if_neg (by omega), if_neg (by omega), if_neg (by omega), if_neg (by omega)]
theorem ut_mid (k lo hi n : Int) (hk : k ≠ 0) {x : Int} (h1 : lo ≤ x) (h2 : x ≤ hi) : utake ⟨k, lo, hi, n, false⟩ x = (⟨k - 1, 128, 191, if k = 1 then n + 1 else n, false⟩, true) := by
  unfold utake
  rw [if_neg hk, if_neg (by simp; omega)]
theorem ut_out (k lo hi n : Int) (hk : k ≠ 0) {x : Int} (h : x < lo ∨ hi < x) : (utake ⟨k, lo, hi, n, false⟩ x).2 = false := by
  unfold utake
  rw [if_neg hk, if_pos h]

theorem whole3_1 (b : Int) (t : List Int) (h0 : 0 ≤ b) (h : b < 128) : whole3 (b :: t) = 1 := by
  rw [whole3_cons b t 1 (long3_1 h), if_neg (by simp), if_pos]
  show put3 (b % 256) = some [b]
  rw [show b % 256 = b from by omega]
  unfold put3
  rw [if_neg (by omega), if_pos h]
theorem whole3_0 (b : Int) (t : List Int) (h : (128 ≤ b ∧ b < 192) ∨ 248 ≤ b) : whole3 (b :: t) = 0 := by
  rw [whole3_cons b t 0 (long3_0 h), if_pos (.inl rfl)]
theorem whole3_short (b : Int) (t : List Int) (h : t.length + 1 < long3 b) : whole3 (b :: t) = 0 := by
  rw [whole3_cons b t _ rfl, if_pos (.inr h)]

theorem letter_feed (c : Uc) (hc : c.ready) (l : List Int) (hne : l ≠ []) (hb : bytesIn l) (hw : whole3 l ≠ 0) : ∃ d, ufeed c (l.take (whole3 l)) = (d, whole3 l) ∧ d.ready ∧ d.count = c.count + 1 ∧ whole3 l ≤ l.length := by
  obtain ⟨b, t, rfl⟩ : ∃ b t, l = b :: t := by cases l with | nil => exact absurd rfl hne | cons b t => exact ⟨b, t, rfl⟩
  obtain ⟨b0, b1⟩ := hb b (by simp)
  have hcb := hc.2
  by_cases k1 : b < 128
  · rw [whole3_1 b t b0 k1]
    refine ⟨⟨0, 128, 191, c.count + 1, false⟩, ?_, ⟨rfl, rfl⟩, rfl, by simp⟩
    show ufeed c [b] = _
    rw [ufeed_ok_cons hcb (ut_1 hc k1)]
    rfl
  by_cases k0 : b < 192
  · exact absurd (whole3_0 b t (by omega)) hw
  by_cases k2 : b < 224
  · rcases t with _ | ⟨x, t⟩
    · exact absurd (whole3_short b [] (by rw [long3_2 (by omega) k2]; simp)) hw
    obtain ⟨x0, x1⟩ := hb x (by simp)
    have e := whole3_2 b x t (by omega) k2 x0 x1
    by_cases g : 194 ≤ b ∧ 128 ≤ x ∧ x ≤ 191
    · rw [if_pos g] at e
      rw [e]
      refine ⟨⟨0, 128, 191, c.count + 1, false⟩, ?_, ⟨rfl, rfl⟩, rfl, by simp⟩
      show ufeed c [b, x] = _
      rw [ufeed_ok_cons hcb (ut_2 hc g.1 (by omega)), ufeed_ok_cons rfl (ut_mid 1 128 191 _ (by decide) g.2.1 g.2.2)]
      rfl
    · rw [if_neg g] at e
      exact absurd e hw
  by_cases k3 : b < 240
  · rcases t with _ | ⟨x, t⟩
    · exact absurd (whole3_short b [] (by rw [long3_3 (by omega) k3]; simp)) hw
    rcases t with _ | ⟨y, t⟩
    · exact absurd (whole3_short b [x] (by rw [long3_3 (by omega) k3]; simp)) hw
    obtain ⟨x0, x1⟩ := hb x (by simp)
    obtain ⟨y0, y1⟩ := hb y (by simp)
    have e := whole3_3 b x y t (by omega) k3 x0 x1 y0 y1
    by_cases g : lo3 b ≤ x ∧ x ≤ hi3 b ∧ 128 ≤ y ∧ y ≤ 191
    · rw [if_pos g] at e
      rw [e]
      refine ⟨⟨0, 128, 191, c.count + 1, false⟩, ?_, ⟨rfl, rfl⟩, rfl, by simp⟩
      show ufeed c [b, x, y] = _
      rw [ufeed_ok_cons hcb (ut_3 hc (by omega) (by omega)), ufeed_ok_cons rfl (ut_mid 2 _ _ _ (by decide) g.1 g.2.1), ufeed_ok_cons rfl (ut_mid _ _ _ _ (by decide) g.2.2.1 g.2.2.2)]
      rfl
    · rw [if_neg g] at e
      exact absurd e hw
  by_cases k4 : b < 248
  · rcases t with _ | ⟨x, t⟩
    · exact absurd (whole3_short b [] (by rw [long3_4 (by omega) k4]; simp)) hw
    rcases t with _ | ⟨y, t⟩
    · exact absurd (whole3_short b [x] (by rw [long3_4 (by omega) k4]; simp)) hw
    rcases t with _ | ⟨z, t⟩
    · exact absurd (whole3_short b [x, y] (by rw [long3_4 (by omega) k4]; simp)) hw
    obtain ⟨x0, x1⟩ := hb x (by simp)
    obtain ⟨y0, y1⟩ := hb y (by simp)
    obtain ⟨z0, z1⟩ := hb z (by simp)
    have e := whole3_4 b x y z t (by omega) k4 x0 x1 y0 y1 z0 z1
    by_cases g : b ≤ 244 ∧ lo3 b ≤ x ∧ x ≤ hi3 b ∧ 128 ≤ y ∧ y ≤ 191 ∧ 128 ≤ z ∧ z ≤ 191
    · rw [if_pos g] at e
      rw [e]
      refine ⟨⟨0, 128, 191, c.count + 1, false⟩, ?_, ⟨rfl, rfl⟩, rfl, by simp⟩
      show ufeed c [b, x, y, z] = _
      rw [ufeed_ok_cons hcb (ut_4 hc (by omega) (by omega)), ufeed_ok_cons rfl (ut_mid 3 _ _ _ (by decide) g.2.1 g.2.2.1), ufeed_ok_cons rfl (ut_mid _ _ _ _ (by decide) g.2.2.2.1 g.2.2.2.2.1), ufeed_ok_cons rfl (ut_mid _ _ _ _ (by decide) g.2.2.2.2.2.1 g.2.2.2.2.2.2)]
      rfl
    · rw [if_neg g] at e
      exact absurd e hw
  · exact absurd (whole3_0 b t (by omega)) hw

/-- Within a letter. -/
def Uc.amid (c : Uc) : Prop := c.bad = false ∧ c.left ≠ 0
theorem begins3_long (b : Int) (t : List Int) (h : long3 b ≤ t.length + 1) : begins3 (b :: t) = false := by
  rw [begins3_cons b t _ rfl, if_pos h]
theorem bad_amid {c : Uc} (h : c.bad = true) : ¬ c.amid := fun k => by have := k.1; rw [h] at this; cases this
/-- One more byte, where no letter is whole. -/
theorem begins_feed (c : Uc) (hc : c.ready) (l : List Int) (hb : bytesIn l) (hw : whole3 l = 0) (e : Nat) (he : e < l.length) (hp : e = 0 ∨ (ufeed c (l.take e)).1.amid) :
    (begins3 (l.take (e + 1)) = true ∧ (ufeed c (l.take (e + 1))).1.amid) ∨ (begins3 (l.take (e + 1)) = false ∧ (ufeed c (l.take (e + 1))).1.bad = true) := by
  obtain ⟨b, t, rfl⟩ : ∃ b t, l = b :: t := by cases l with | nil => simp at he | cons b t => exact ⟨b, t, rfl⟩
  obtain ⟨b0, b1⟩ := hb b (by simp)
  have hcb := hc.2
  by_cases k1 : b < 128
  · rw [whole3_1 b t b0 k1] at hw
    cases hw
  by_cases kn : b < 194 ∨ 245 ≤ b
  · -- no letter begins so
    have hbad : ∀ t', (ufeed c (b :: t')).1.bad = true := fun t' => ufeed_no_cons hcb (ut_no hc (by omega)) t'
    rcases hp with rfl | hp
    · right
      refine ⟨?_, hbad _⟩
      show begins3 [b] = false
      by_cases a1 : b < 192
      · exact begins3_long b [] (by rw [long3_0 (by omega)]; omega)
      by_cases a2 : b < 224
      · rw [begins3_21 b (by omega) a2]; exact decide_eq_false (by omega)
      by_cases a4 : b < 248
      · rw [begins3_41 b (by omega) a4]; exact decide_eq_false (by omega)
      · exact begins3_long b [] (by rw [long3_0 (by omega)]; omega)
    · rcases e with _ | e
      · exact absurd hc.1 hp.2
      · exact absurd hp (bad_amid (hbad _))
  by_cases k2 : b < 224
  · have hu : ∀ t', ufeed c (b :: t') = _ := fun t' => ufeed_ok_cons hcb (ut_2 hc (by omega) (by omega)) t'
    rcases e with _ | e
    · left
      show begins3 [b] = true ∧ (ufeed c [b]).1.amid
      rw [begins3_21 b (by omega) k2, hu]
      exact ⟨decide_eq_true (by omega), ⟨rfl, by show (1 : Int) ≠ 0; decide⟩⟩
    rcases t with _ | ⟨x, t⟩
    · exfalso; simp only [List.length_cons, List.length_nil] at he; omega
    obtain ⟨x0, x1⟩ := hb x (by simp)
    have e2 := whole3_2 b x t (by omega) k2 x0 x1
    rw [hw] at e2
    have hx : x < 128 ∨ 191 < x := by
      by_cases g : 194 ≤ b ∧ 128 ≤ x ∧ x ≤ 191
      · rw [if_pos g] at e2; cases e2
      · omega
    have hbad : ∀ t', (ufeed c (b :: x :: t')).1.bad = true := fun t' => by rw [hu]; exact ufeed_no_cons rfl (ut_out 1 128 191 _ (by decide) hx) t'
    rcases e with _ | e
    · right
      exact ⟨begins3_long b _ (by rw [long3_2 (by omega) k2]; simp), hbad _⟩
    · rcases hp with hp | hp
      · omega
      · exact absurd hp (bad_amid (hbad _))
  by_cases k3 : b < 240
  · have hu : ∀ t', ufeed c (b :: t') = _ := fun t' => ufeed_ok_cons hcb (ut_3 hc (by omega) (by omega)) t'
    rcases e with _ | e
    · left
      show begins3 [b] = true ∧ (ufeed c [b]).1.amid
      rw [begins3_31 b (by omega) k3, hu]
      exact ⟨rfl, ⟨rfl, by show (2 : Int) ≠ 0; decide⟩⟩
    rcases t with _ | ⟨x, t⟩
    · exfalso; simp only [List.length_cons, List.length_nil] at he; omega
    obtain ⟨x0, x1⟩ := hb x (by simp)
    by_cases gx : lo3 b ≤ x ∧ x ≤ hi3 b
    · have hu2 : ∀ t', ufeed c (b :: x :: t') = _ := fun t' => by rw [hu, ufeed_ok_cons rfl (ut_mid 2 _ _ _ (by decide) gx.1 gx.2)]
      rcases e with _ | e
      · left
        show begins3 [b, x] = true ∧ (ufeed c [b, x]).1.amid
        rw [begins3_32 b x (by omega) k3 x0 x1, hu2]
        exact ⟨decide_eq_true gx, ⟨rfl, by show (1 : Int) ≠ 0; decide⟩⟩
      rcases t with _ | ⟨y, t⟩
      · exfalso; simp only [List.length_cons, List.length_nil] at he; omega
      obtain ⟨y0, y1⟩ := hb y (by simp)
      have e3 := whole3_3 b x y t (by omega) k3 x0 x1 y0 y1
      rw [hw] at e3
      have hy : y < 128 ∨ 191 < y := by
        by_cases g : lo3 b ≤ x ∧ x ≤ hi3 b ∧ 128 ≤ y ∧ y ≤ 191
        · rw [if_pos g] at e3; cases e3
        · omega
      have hbad : ∀ t', (ufeed c (b :: x :: y :: t')).1.bad = true := fun t' => by rw [hu2]; exact ufeed_no_cons rfl (ut_out _ _ _ _ (by decide) hy) t'
      rcases e with _ | e
      · right
        exact ⟨begins3_long b _ (by rw [long3_3 (by omega) k3]; simp), hbad _⟩
      · rcases hp with hp | hp
        · omega
        · exact absurd hp (bad_amid (hbad _))
    · have hbad : ∀ t', (ufeed c (b :: x :: t')).1.bad = true := fun t' => by rw [hu]; exact ufeed_no_cons rfl (ut_out 2 _ _ _ (by decide) (by omega)) t'
      rcases e with _ | e
      · right
        refine ⟨?_, hbad _⟩
        show begins3 [b, x] = false
        rw [begins3_32 b x (by omega) k3 x0 x1]
        exact decide_eq_false gx
      · rcases hp with hp | hp
        · omega
        · exact absurd hp (bad_amid (hbad _))
  · have hu : ∀ t', ufeed c (b :: t') = _ := fun t' => ufeed_ok_cons hcb (ut_4 hc (by omega) (by omega)) t'
    rcases e with _ | e
    · left
      show begins3 [b] = true ∧ (ufeed c [b]).1.amid
      rw [begins3_41 b (by omega) (by omega), hu]
      exact ⟨decide_eq_true (by omega), ⟨rfl, by show (3 : Int) ≠ 0; decide⟩⟩
    rcases t with _ | ⟨x, t⟩
    · exfalso; simp only [List.length_cons, List.length_nil] at he; omega
    obtain ⟨x0, x1⟩ := hb x (by simp)
    by_cases gx : lo3 b ≤ x ∧ x ≤ hi3 b
    · have hu2 : ∀ t', ufeed c (b :: x :: t') = _ := fun t' => by rw [hu, ufeed_ok_cons rfl (ut_mid 3 _ _ _ (by decide) gx.1 gx.2)]
      rcases e with _ | e
      · left
        show begins3 [b, x] = true ∧ (ufeed c [b, x]).1.amid
        rw [begins3_42 b x (by omega) (by omega) x0 x1, hu2]
        exact ⟨decide_eq_true gx, ⟨rfl, by show (2 : Int) ≠ 0; decide⟩⟩
      rcases t with _ | ⟨y, t⟩
      · exfalso; simp only [List.length_cons, List.length_nil] at he; omega
      obtain ⟨y0, y1⟩ := hb y (by simp)
      by_cases gy : 128 ≤ y ∧ y ≤ 191
      · have hu3 : ∀ t', ufeed c (b :: x :: y :: t') = _ := fun t' => by rw [hu2, ufeed_ok_cons rfl (ut_mid _ _ _ _ (by decide) gy.1 gy.2)]
        rcases e with _ | e
        · left
          show begins3 [b, x, y] = true ∧ (ufeed c [b, x, y]).1.amid
          rw [begins3_43 b x y (by omega) (by omega) gx y0 y1, hu3]
          exact ⟨decide_eq_true gy, ⟨rfl, by show (1 : Int) ≠ 0; decide⟩⟩
        rcases t with _ | ⟨z, t⟩
        · exfalso; simp only [List.length_cons, List.length_nil] at he; omega
        obtain ⟨z0, z1⟩ := hb z (by simp)
        have e4 := whole3_4 b x y z t (by omega) (by omega) x0 x1 y0 y1 z0 z1
        rw [hw] at e4
        have hz : z < 128 ∨ 191 < z := by
          by_cases g : b ≤ 244 ∧ lo3 b ≤ x ∧ x ≤ hi3 b ∧ 128 ≤ y ∧ y ≤ 191 ∧ 128 ≤ z ∧ z ≤ 191
          · rw [if_pos g] at e4; cases e4
          · omega
        have hbad : ∀ t', (ufeed c (b :: x :: y :: z :: t')).1.bad = true := fun t' => by rw [hu3]; exact ufeed_no_cons rfl (ut_out _ _ _ _ (by decide) hz) t'
        rcases e with _ | e
        · right
          exact ⟨begins3_long b _ (by rw [long3_4 (by omega) (by omega)]; simp), hbad _⟩
        · rcases hp with hp | hp
          · omega
          · exact absurd hp (bad_amid (hbad _))
      · have hbad : ∀ t', (ufeed c (b :: x :: y :: t')).1.bad = true := fun t' => by rw [hu2]; exact ufeed_no_cons rfl (ut_out _ _ _ _ (by decide) (by omega)) t'
        rcases e with _ | e
        · right
          refine ⟨?_, hbad _⟩
          show begins3 [b, x, y] = false
          rw [begins3_43 b x y (by omega) (by omega) gx y0 y1]
          exact decide_eq_false gy
        · rcases hp with hp | hp
          · omega
          · exact absurd hp (bad_amid (hbad _))
    · have hbad : ∀ t', (ufeed c (b :: x :: t')).1.bad = true := fun t' => by rw [hu]; exact ufeed_no_cons rfl (ut_out 3 _ _ _ (by decide) (by omega)) t'
      rcases e with _ | e
      · right
        refine ⟨?_, hbad _⟩
        show begins3 [b, x] = false
        rw [begins3_42 b x (by omega) (by omega) x0 x1]
        exact decide_eq_false gx
      · rcases hp with hp | hp
        · omega
        · exact absurd hp (bad_amid (hbad _))
end Go.Proofs.Ytfafpcmdgjmlhaa
