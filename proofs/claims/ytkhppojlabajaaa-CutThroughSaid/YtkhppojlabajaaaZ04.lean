/- Rows of the call's own (ownsRow): touched, made, written. | cut: Count. -/
import Derived.Test.YtkhppojlabajaaaZ03
/- Rows of the call's own (ownsRow): touched, made, written. -/
namespace Go.Proofs.Ytkhppojlabajaaa
open Go.RowKit
set_option linter.unusedSimpArgs false
set_option linter.unusedVariables false

section
variable {S : Nat → Prop} {w w' : World} {base : Nat} {e : TypeId} {size n : Nat} {v : Value} {xs : List Value}
theorem own_touch (h : w.ownsRow base e size v n xs) (k : Touch S w w') (hS : ∀ b, v.ownBlock = some b → ¬ S b) : w'.ownsRow base e size v n xs := by
  refine ⟨h.1, ?_⟩
  rcases h.2 with hn | ⟨g, cap, cur, rfl, hb, hg, rest⟩
  · exact .inl hn
  · exact .inr ⟨g, cap, cur, rfl, hb, (k.block g (Array.getElem?_eq_some_iff.1 hg).1 (hS g rfl)).trans hg, rest⟩
theorem own_no (h : w.ownsRow base e size v n xs) (k : Touch NoS w w') : w'.ownsRow base e size v n xs := own_touch h k fun _ _ h => h
theorem own_type {b : Nat} (h : w.ownsRow base e size v n xs) (hv : v.ownBlock = some b) : ∃ cs, Blk w b e cs := by
  rcases h.2 with ⟨rfl, _⟩ | ⟨g, cap, cur, rfl, _, hg, _⟩
  · simp [Value.ownBlock] at hv
  · simp [Value.ownBlock] at hv
    subst hv
    exact ⟨cur, hg⟩
theorem own_base {b : Nat} (h : w.ownsRow base e size v n xs) (hv : v.ownBlock = some b) : base ≤ b := by
  rcases h.2 with ⟨rfl, _⟩ | ⟨g, cap, cur, rfl, hb, hg, _⟩
  · simp [Value.ownBlock] at hv
  · simp [Value.ownBlock] at hv
    omega
theorem own_lower {base' : Nat} (h : w.ownsRow base e size v n xs) (hb : base' ≤ base) : w.ownsRow base' e size v n xs := by
  refine ⟨h.1, ?_⟩
  rcases h.2 with hn | ⟨g, cap, cur, rfl, hg, rest⟩
  · exact .inl hn
  · exact .inr ⟨g, cap, cur, rfl, by omega, rest⟩
theorem own_blk {g : Nat} (h : Blk w g e xs.toArray) (hx : xs.length = n) (hb : base ≤ g) (hn : n ≤ maxLen) : w.ownsRow base e 1 (.slice (some ⟨g, 0, none⟩) n n) n xs :=
  ⟨by omega, .inr ⟨g, n, xs.toArray, rfl, hb, h, Nat.le_refl _, hn, by simp [hx], by simp [← hx]⟩⟩
theorem own_nil (w : World) (base : Nat) (e : TypeId) (size : Nat) : w.ownsRow base e size (.slice none 0 0) 0 [] := ⟨by simp, .inl ⟨rfl, rfl⟩⟩
/-- What a row of the call's own is. -/
theorem own_cases (h : w.ownsRow base e size v n xs) : ∃ A c, v = .slice A n c ∧ n ≤ c ∧ c ≤ maxLen ∧ Rd w A xs ∧ (A = none → n = 0) ∧ ∀ a, A = some a → a.spot = none ∧ a.off = 0 ∧ base ≤ a.block ∧ a.block < w.heap.size := by
  have hr := (Row.of_own (A := none) (c := 0) (w := w) (base := base) (e := e) (size := size) (n := n) (xs := xs))
  rcases h.2 with ⟨rfl, rfl⟩ | ⟨g, cap, cur, rfl, hb, hg, hc, hm, hs, ht⟩
  · have hx : xs = [] := List.eq_nil_of_length_eq_zero (by rw [h.1]; simp)
    subst hx
    exact ⟨none, 0, rfl, Nat.le_refl _, by simp [maxLen], fun h => absurd rfl h, fun _ => rfl, fun a ha => by cases ha⟩
  · exact ⟨_, cap, rfl, hc, hm, (Row.of_own h).rd, fun h => (by cases h), fun a ha => by injection ha with ha; subst ha; exact ⟨rfl, rfl, hb, (Array.getElem?_eq_some_iff.1 hg).1⟩⟩
/-- An element written. -/
theorem own_set {g c : Nat} (h : w.ownsRow base e 1 (.slice (some ⟨g, 0, none⟩) n c) n xs) (j : Nat) (hj : j < n) (u : Value) : (w.setCell ⟨g, j, none⟩ u).ownsRow base e 1 (.slice (some ⟨g, 0, none⟩) n c) n (xs.set j u) := by
  refine ⟨by rw [List.length_set]; exact h.1, ?_⟩
  rcases h.2 with ⟨hv, _⟩ | ⟨g', cap, cur, hv, hb, hg, hc, hm, hs, ht⟩
  · cases hv
  · injection hv with h1 _ h3
    injection h1 with h1
    injection h1 with h1
    subst h1
    subst h3
    refine .inr ⟨g, c, cur.setIfInBounds j u, rfl, hb, Blk.set_ (t := e) hg j u, hc, hm, by simpa using hs, ?_⟩
    rw [← ht]
    simp only [Array.toList_setIfInBounds, List.take_set]
theorem own_cell {g c : Nat} (h : w.ownsRow base e 1 (.slice (some ⟨g, 0, none⟩) n c) n xs) (j : Nat) (u : Value) (hj : xs[j]? = some u) : w.cell? ⟨g, j, none⟩ = some u ∧ w.frozen? ⟨g, j, none⟩ = false ∧ g < w.heap.size := by
  rcases h.2 with ⟨hv, _⟩ | ⟨g', cap, cur, hv, hb, hg, hc, hm, hs, ht⟩
  · cases hv
  · injection hv with h1 _ h3
    injection h1 with h1
    injection h1 with h1
    subst h1
    refine ⟨?_, Blk.frozen (t := e) hg j, (Array.getElem?_eq_some_iff.1 hg).1⟩
    have hb2 : Blk w g e cur := hg
    rw [hb2.cell j]
    rw [← ht, List.getElem?_take] at hj
    split at hj
    · simpa using hj
    · cases hj
end
theorem u8s_one (l : List Int) : ∀ u ∈ u8s l, u.oneCell' = true := by
  intro u hu
  simp [u8s] at hu
  obtain ⟨x, _, rfl⟩ := hu
  rfl
theorem u8s_length (l : List Int) : (u8s l).length = l.length := by simp [u8s]
theorem u8s_append (a b : List Int) : u8s (a ++ b) = u8s a ++ u8s b := by simp [u8s]
theorem info_u8 : ∃ i, Try.prog.info? 5 = some i ∧ i.zero = some (.int .u8 0) ∧ i.size = 1 ∧ i.bytes = 1 := by
  have h : (Try.prog.info? 5).map (fun i => (i.zero, i.size, i.bytes)) = some (some (.int .u8 0), 1, 1) := by kernel_rfl
  cases hi : Try.prog.info? 5 with
  | none => rw [hi] at h; cases h
  | some i =>
    rw [hi] at h
    simp only [Option.map_some, Option.some.injEq, Prod.mk.injEq] at h
    exact ⟨i, rfl, h.1, h.2.1, h.2.2⟩
/-- A row that a call leaves lies where one lay ahead of it, or is new. -/
def Loc (w : World) (v v1 : Value) : Prop := ∀ b, v1.ownBlock = some b → v.ownBlock = some b ∨ w.heap.size ≤ b
theorem Loc.refl (w : World) (v : Value) : Loc w v v := fun _ h => .inl h
theorem Loc.nil_ (w : World) (v : Value) : Loc w v (.slice none 0 0) := fun _ h => by cases h
theorem Loc.trans {w w1 : World} {v v1 v2 : Value} (h : Loc w v v1) (k : Loc w1 v1 v2) (hs : w.heap.size ≤ w1.heap.size) : Loc w v v2 := fun b hb => by
  rcases k b hb with h1 | h1
  · exact h b h1
  · exact .inr (Nat.le_trans hs h1)
theorem Loc.app {w w1 : World} {v v1 : Value} (h : v1.ownBlock = v.ownBlock ∨ v1.ownBlock = some w1.heap.size) (hs : w.heap.size ≤ w1.heap.size) : Loc w v v1 := fun b hb => by
  rcases h with h | h
  · exact .inl (by rw [← h]; exact hb)
  · rw [h] at hb
    injection hb with hb
    exact .inr (by omega)
/-- What is written: the blocks of N, and what is new. -/
theorem Loc.apart {w : World} {v v1 u : Value} (h : Loc w v v1) (hu : ∀ b, u.ownBlock = some b → v.ownBlock ≠ some b) (hb : ∀ b, u.ownBlock = some b → b < w.heap.size) : ∀ b, u.ownBlock = some b → v1.ownBlock ≠ some b := fun b hub hv => by
  rcases h b hv with h1 | h1
  · exact hu b hub h1
  · have := hb b hub
    omega
end Go.Proofs.Ytkhppojlabajaaa
/- cut: Count. -/
namespace Go.Proofs.Ytkhppojlabajaaa
open Go.RowKit
set_option linter.unusedSimpArgs false
set_option linter.unusedVariables false

/-- How many frames a message is. -/
def count13 (size most : Int) : Int := if size < 0 ∨ 1048576 < size ∨ most < 1 ∨ 65536 < most then 0 else max ((size + most - 1) / most) 1
set_option maxHeartbeats 1600000 in
set_option maxRecDepth 100000 in
theorem k_count (size most : Int) (w : World) : Calls Try.prog 21 #[.int .i64 size, .int .i64 most] w fun e w' => e = .returned (.int .i64 (count13 size most)) ∧ w = w' := by
  by_cases h1 : size < 0
  · rw [show count13 size most = 0 from if_pos (.inl h1)]
    go_enter Try.func21, Try.ntmps21
    go_wp2
    go_ret
    exact ⟨rfl, rfl⟩
  by_cases h2 : 1048576 < size
  · rw [show count13 size most = 0 from if_pos (.inr (.inl h2))]
    have h1' : 0 ≤ size := by omega
    clear h1
    go_enter Try.func21, Try.ntmps21
    go_wp2
    go_ret
    exact ⟨rfl, rfl⟩
  have h1' : 0 ≤ size := by omega
  have h2' : size ≤ 1048576 := by omega
  by_cases h3 : most < 1
  · rw [show count13 size most = 0 from if_pos (.inr (.inr (.inl h3)))]
    clear h1 h2
    go_enter Try.func21, Try.ntmps21
    go_wp2
    go_ret
    exact ⟨rfl, rfl⟩
  have h3' : 1 ≤ most := by omega
  by_cases h4 : 65536 < most
  · rw [show count13 size most = 0 from if_pos (.inr (.inr (.inr h4)))]
    clear h1 h2 h3
    go_enter Try.func21, Try.ntmps21
    go_wp2
    go_ret
    exact ⟨rfl, rfl⟩
  have h4' : most ≤ 65536 := by omega
  have hc : count13 size most = max ((size + most - 1) / most) 1 := if_neg (by omega)
  rw [hc]
  obtain ⟨q, hq⟩ : ∃ q, q = (size + most - 1) / most := ⟨_, rfl⟩
  rw [← hq]
  have hw1 : IntKind.i64.wrap (size + most) = size + most := IntWalk.i64_in _ (by omega)
  have hw2 : IntKind.i64.wrap (size + most - 1) = size + most - 1 := IntWalk.i64_in _ (by omega)
  have hq0 : 0 ≤ q := by rw [hq]; exact Int.ediv_nonneg (by omega) (by omega)
  have hq1 : q ≤ size + most - 1 := by rw [hq]; exact Int.ediv_le_self _ (by omega)
  have ht : (size + most - 1).tdiv most = q := by rw [Int.tdiv_eq_ediv_of_nonneg (by omega), hq]
  have hw3 : IntKind.i64.wrap q = q := IntWalk.i64_in _ (by omega)
  have hne : ¬ most = 0 := by omega
  have hneb : (most == 0) = false := by rw [beq_eq_false_iff_ne]; exact hne
  clear h1 h2 h3 h4 hc hq
  go_enter Try.func21, Try.ntmps21
  go_wp2
  go_ret
  exact ⟨rfl, rfl⟩
end Go.Proofs.Ytkhppojlabajaaa
