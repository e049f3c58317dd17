/- The queue laws' own example: awake. -/
import Derived.Test.YtgbldgeknmkmmaaQb
namespace Go.Proofs.Ytgbldgeknmkmmaa
open Go.RowKit
set_option linter.unusedSimpArgs false
set_option linter.unusedVariables false

theorem q_new {N : Nat → Prop} (c b : Int) (w : World) (h1 : 1 ≤ c) (h2 : c ≤ 1024) (h3 : 1 ≤ b) (h4 : b ≤ 4194304) :
    Calls Try.prog 15 #[.int .i64 c, .int .i64 b] w fun e w' => ∃ g, e = .returned (.tuple #[.pointer (some ⟨g, 0, none⟩), .int .i64 0]) ∧ w.heap.size ≤ g ∧ IsQN N w' g ⟨c, b, []⟩ ∧ Touch NoS w w' :=
  (new_good c b w h1 h2 h3 h4).mono fun _ _ ⟨he, hq, ht⟩ => ⟨_, he, Nat.le_refl _, hq, ht⟩

def E1 : Ev := ⟨1, 0, ⟨#[97, 98, 99]⟩⟩
def E2 : Ev := ⟨1, 0, ⟨#[100, 101]⟩⟩
def E3 : Ev := ⟨1, 0, ⟨#[102]⟩⟩
theorem E1_val : E1.val = .agg #[.int .i64 1, .int .i64 0, .string ⟨#[97, 98, 99]⟩] := rfl
theorem E2_val : E2.val = .agg #[.int .i64 1, .int .i64 0, .string ⟨#[100, 101]⟩] := rfl

set_option maxHeartbeats 1600000 in
set_option maxRecDepth 100000 in
theorem q_awake (w : World) : Calls Try.prog 16 #[] w fun e w' => e = .returned (.bool true) ∧ Touch NoS w w' := by
  go_enter Try.func16, Try.ntmps16
  go_wp2_with fail
  refine (q_new (N := NoS) 2 5 _ (by omega) (by omega) (by omega) (by omega)).mono ?_
  rintro e w1 ⟨g, rfl, hg, hq1, ht1⟩
  have HT := Lib.hid ht1
  have HQ := Lib.hid hq1
  clear ht1 hq1
  go_wp2_with fail
  refine (q_put_yes g ⟨2, 5, []⟩ E1 (by rfl) _ HQ.out).mono ?_
  rintro e w2 ⟨rfl, hq1, ht1⟩
  have HT2 := Lib.hid (HT.out.at_new ht1 hg)
  have HQ2 : Hid (IsQ w2 g ⟨2, 5, [E1]⟩) := hq1
  clear ht1 hq1 HT HQ
  go_wp2_with fail
  refine (q_put_yes g ⟨2, 5, [E1]⟩ E2 (by rfl) _ HQ2.out).mono ?_
  rintro e w3 ⟨rfl, hq1, ht1⟩
  have HT3 := Lib.hid (HT2.out.at_new ht1 hg)
  have HQ3 : Hid (IsQ w3 g ⟨2, 5, [E1, E2]⟩) := hq1
  clear ht1 hq1 HT2 HQ2
  go_wp2_with fail
  refine (q_put_no g ⟨2, 5, [E1, E2]⟩ E3 (by rfl) _ HQ3.out).mono ?_
  rintro e w4 ⟨rfl, ht1⟩
  have HT4 := Lib.hid (HT3.out.trans ht1)
  have HQ4 := Lib.hid (HQ3.out.no ht1)
  clear ht1 HT3 HQ3
  go_wp2_with fail
  refine (q_take_some g ⟨2, 5, [E1, E2]⟩ E1 [E2] (by rfl) _ HQ4.out).mono ?_
  rintro e w5 ⟨rfl, hq1, ht1⟩
  have HT5 := Lib.hid (HT4.out.at_new ht1 hg)
  have HQ5 : Hid (IsQ w5 g ⟨2, 5, [E2]⟩) := hq1
  clear ht1 hq1 HT4 HQ4
  rw [E1_val]
  go_wp2_with fail
  have HT6 := Lib.hid (HT5.out.alloc (.cells #[.int .i64 1, .int .i64 0, .string ⟨#[97, 98, 99]⟩] 32))
  refine (q_put_yes g ⟨2, 5, [E2]⟩ E3 (by rfl) _ (HQ5.out.no ((Touch.refl _ _).alloc _))).mono ?_
  rintro e w6 ⟨rfl, hq1, ht1⟩
  have hx := (Blk.new w5 32 #[.int .i64 1, .int .i64 0, .string ⟨#[97, 98, 99]⟩]).touch ht1 (by have := HQ5.out.lt; show ¬ w5.heap.size = g; omega)
  have HX := Lib.hid hx
  have HT7 := Lib.hid (HT6.out.at_new ht1 hg)
  have HQ7 : Hid (IsQ w6 g ⟨2, 5, [E2, E3]⟩) := hq1
  clear ht1 hq1 HT5 HQ5 HT6 hx
  go_wp2_with fail
  refine (q_peek_some g ⟨2, 5, [E2, E3]⟩ E2 [E3] (by rfl) _ HQ7.out).mono ?_
  rintro e w7 ⟨rfl, ht1⟩
  have HT8 := Lib.hid (HT7.out.trans ht1)
  have HQ8 : Hid (IsQ w7 g ⟨2, 5, [E2, E3]⟩) := HQ7.out.no ht1
  have hx := HX.out.touch ht1 (fun h => h)
  have x2 := hx.cell 2
  have hz := hx.lt
  simp at x2
  clear hx HX ht1 HT7 HQ7
  rw [E2_val]
  go_wp2_with (first
    | (go_at_call 24; refine (q_len g ⟨2, 5, [E2, E3]⟩ _ (HQ8.out.no ((Touch.refl _ _).alloc _))).mono ?_; rintro e w' ⟨rfl, rfl⟩)
    | (go_at_call 25; refine (q_size g ⟨2, 5, [E2, E3]⟩ _ (HQ8.out.no ((Touch.refl _ _).alloc _))).mono ?_; rintro e w' ⟨rfl, rfl⟩)
    | (go_at_call 22; refine (q_room g ⟨2, 5, [E2, E3]⟩ 0 false (by rfl) _ (HQ8.out.no ((Touch.refl _ _).alloc _))).mono ?_; rintro e w' ⟨rfl, k, rfl⟩))
  go_ret
  exact ⟨rfl, (HT8.out.alloc _).drewN _⟩
end Go.Proofs.Ytgbldgeknmkmmaa
