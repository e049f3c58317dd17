/- The document's letters: begins. -/
import Derived.Test.YtfafpcmdgjmlhaaVb
namespace Go.Proofs.Ytfafpcmdgjmlhaa
open Go.RowKit
set_option linter.unusedSimpArgs false
set_option linter.unusedVariables false

/-- The least and the greatest letter that begin so, behind j bytes. -/
def bl (l : List Int) (m : Int) : Nat → Int
  | 0 => m
  | j + 1 => 64 * bl l m j + (if j + 1 < l.length then l.getD (j + 1) 0 - 128 else 0)
def bh (l : List Int) (m : Int) : Nat → Int
  | 0 => m
  | j + 1 => 64 * bh l m j + (if j + 1 < l.length then l.getD (j + 1) 0 - 128 else 63)
def from3 (n : Nat) : Int := match n with | 2 => 128 | 3 => 2048 | 4 => 65536 | _ => 0
def to3 (n : Nat) : Int := match n with | 1 => 127 | 2 => 2047 | 3 => 65535 | 4 => 1114111 | _ => 0
def fin3 (lo hi : Int) (n : Nat) : Bool := decide (max lo (from3 n) ≤ min hi (to3 n)) && !(decide (55296 ≤ max lo (from3 n)) && decide (min hi (to3 n) ≤ 57343))
def conts (l : List Int) (k : Nat) : Prop := ∀ i, 1 ≤ i → i < k → i < l.length → 128 ≤ l.getD i 0 ∧ l.getD i 0 ≤ 191
instance (l : List Int) (k : Nat) : Decidable (conts l k) := decidable_of_iff (∀ i, i < k → 1 ≤ i → i < l.length → 128 ≤ l.getD i 0 ∧ l.getD i 0 ≤ 191) ⟨fun h i a b => h i b a, fun h i a b => h i b a⟩
def begins3 (l : List Int) : Bool :=
  if long3 (l.getD 0 0) ≤ l.length then false
  else if conts l (long3 (l.getD 0 0)) then fin3 (bl l (first3 l (long3 (l.getD 0 0))) (long3 (l.getD 0 0) - 1)) (bh l (first3 l (long3 (l.getD 0 0))) (long3 (l.getD 0 0) - 1)) (long3 (l.getD 0 0)) else false
theorem bb_bound (l : List Int) (m : Int) (k : Nat) (hk : k ≤ 4) (h0 : 0 ≤ m) (h1 : m ≤ 255) (hc : conts l k) : ∀ j, j < k → 0 ≤ bl l m j ∧ bl l m j ≤ 67108863 ∧ 0 ≤ bh l m j ∧ bh l m j ≤ 67108863 := by
  have step : ∀ j (B : Int), j + 1 < k → 0 ≤ B → (0 ≤ bl l m j ∧ bl l m j ≤ B ∧ 0 ≤ bh l m j ∧ bh l m j ≤ B) → (0 ≤ bl l m (j + 1) ∧ bl l m (j + 1) ≤ 64 * B + 63 ∧ 0 ≤ bh l m (j + 1) ∧ bh l m (j + 1) ≤ 64 * B + 63) := by
    intro j B hj hB h
    have e1 : bl l m (j + 1) = 64 * bl l m j + (if j + 1 < l.length then l.getD (j + 1) 0 - 128 else 0) := rfl
    have e2 : bh l m (j + 1) = 64 * bh l m j + (if j + 1 < l.length then l.getD (j + 1) 0 - 128 else 63) := rfl
    rw [e1, e2]
    split
    · have := hc (j + 1) (by omega) hj (by assumption)
      omega
    · omega
  have a0 : 0 ≤ bl l m 0 ∧ bl l m 0 ≤ 255 ∧ 0 ≤ bh l m 0 ∧ bh l m 0 ≤ 255 := ⟨h0, h1, h0, h1⟩
  intro j hj
  rcases j with _ | _ | _ | _ | j
  · exact ⟨a0.1, Int.le_trans a0.2.1 (by decide), a0.2.2.1, Int.le_trans a0.2.2.2 (by decide)⟩
  · have a1 := step 0 255 hj (by decide) a0
    exact ⟨a1.1, Int.le_trans a1.2.1 (by decide), a1.2.2.1, Int.le_trans a1.2.2.2 (by decide)⟩
  · have a1 := step 1 _ hj (by decide) (step 0 255 (by omega) (by decide) a0)
    exact ⟨a1.1, Int.le_trans a1.2.1 (by decide), a1.2.2.1, Int.le_trans a1.2.2.2 (by decide)⟩
  · have a1 := step 2 _ hj (by decide) (step 1 _ (by omega) (by decide) (step 0 255 (by omega) (by decide) a0))
    exact ⟨a1.1, Int.le_trans a1.2.1 (by decide), a1.2.2.1, Int.le_trans a1.2.2.2 (by decide)⟩
  · omega

set_option maxHeartbeats 12800000 in
set_option maxRecDepth 100000 in
theorem r3_begins (s : ByteArray) (hs : 0 < s.size) (hs2 : s.size ≤ 1000) (w : World) : Calls Try.prog 80 #[.string s] w fun e w' => e = .returned (.bool (begins3 (sb s))) ∧ Touch NoS w w' := by
  obtain ⟨b, hb⟩ : ∃ b : Int, b = ((s[0].toNat : Nat) : Int) := ⟨_, rfl⟩
  have hb0 : 0 ≤ b := by omega
  have hb1 : b ≤ 255 := by have := s[0].toNat_lt; omega
  have hg : (sb s).getD 0 0 = b := by rw [sb_getD s 0 hs, hb]
  obtain ⟨n, hn⟩ : ∃ n, n = long3 b := ⟨_, rfl⟩
  have hn4 : n ≤ 4 := by rw [hn]; exact long3_le b
  have HL := Lib.hid (fun W => r3_long b hb0 hb1 W)
  by_cases h1 : n ≤ s.size
  · have hr : begins3 (sb s) = false := by unfold begins3; rw [hg, ← hn, sb_length, if_pos h1]
    rw [hr]
    rw [← hn] at HL
    clear hr hn
    go_enter Try.func80, Try.ntmps80
    go_wp2_with fail
    rw [← hb]
    refine (HL.out _).mono ?_
    rintro e w1 ⟨rfl, rfl⟩
    go_wp2
    go_ret
    exact ⟨rfl, Touch.refl _ _⟩
  obtain ⟨m, hm⟩ : ∃ m, m = first3 (sb s) n := ⟨_, rfl⟩
  obtain ⟨R, hR⟩ : ∃ R, R = begins3 (sb s) := ⟨_, rfl⟩
  have hr : R = if conts (sb s) n then fin3 (bl (sb s) m (n - 1)) (bh (sb s) m (n - 1)) n else false := by rw [hR]; unfold begins3; rw [hg, ← hn, sb_length, if_neg h1, ← hm]
  rw [← hR]
  have HRR := Lib.hid hr
  clear hR
  obtain ⟨P, D, hP, hPD, hmd, hm0, hm1⟩ : ∃ P D : Int, pow3 n = P ∧ ((P = 8 ∧ D = 32) ∨ (P = 16 ∧ D = 16) ∨ (P = 32 ∧ D = 8)) ∧ Int.tmod ((s[0].toNat : Nat) : Int) D = m ∧ 0 ≤ m ∧ m ≤ 255 := by
    unfold first3 at hm
    rw [hg] at hm
    rw [← hb]
    rcases n with _ | _ | _ | _ | _ | n
    · omega
    · omega
    · exact ⟨8, 32, rfl, by simp, by rw [Int.tmod_eq_emod_of_nonneg hb0]; exact hm.symm, by rw [hm]; show 0 ≤ b % 32; omega, by rw [hm]; show b % 32 ≤ 255; omega⟩
    · exact ⟨16, 16, rfl, by simp, by rw [Int.tmod_eq_emod_of_nonneg hb0]; exact hm.symm, by rw [hm]; show 0 ≤ b % 16; omega, by rw [hm]; show b % 16 ≤ 255; omega⟩
    · exact ⟨32, 8, rfl, by simp, by rw [Int.tmod_eq_emod_of_nonneg hb0]; exact hm.symm, by rw [hm]; show 0 ≤ b % 8; omega, by rw [hm]; show b % 8 ≤ 255; omega⟩
    · omega
  rw [← hn] at HL
  have HW := Lib.hid (fun W => r3_pow n hn4 W)
  rw [hP] at HW
  have HM := Lib.hid hm
  have HG := Lib.hid hg
  have htd : Touch NoS w w.drew := (Touch.refl _ _).drew
  clear hr hn hm hP hg
  have wb : IntKind.i64.wrap ((s[0].toNat : Nat) : Int) = ((s[0].toNat : Nat) : Int) := IntWalk.i64_in _ (by omega)
  have wm : IntKind.i64.wrap m = m := IntWalk.i64_in _ (by omega)
  have wd2 : IntKind.i64.wrap 32 = 32 := by decide
  have wd3 : IntKind.i64.wrap 16 = 16 := by decide
  have wd4 : IntKind.i64.wrap 8 = 8 := by decide
  go_enter Try.func80, Try.ntmps80
  go_wp2_with fail
  rw [← hb]
  refine (HL.out _).mono ?_
  rintro e w1 ⟨rfl, rfl⟩
  go_upto_region 4 with (fail)
  go_cut [4, 5] (fun v u wx => v = .int .i64 m ∧ u = .int .i64 m ∧ Touch NoS w wx)
  case first =>
    rcases hPD with ⟨rfl, rfl⟩ | ⟨rfl, rfl⟩ | ⟨rfl, rfl⟩
    all_goals
      go_region_held3 (fun w' => Touch NoS w w')
        (first | assumption | go_keep)
        (first | (go_at_call 84; refine (HW.out _).mono ?_; rintro e w' ⟨rfl, ht1⟩; have k3 : Touch NoS w w' := Touch.trans (by assumption) ht1; clear ht1))
    all_goals
      go_wp2_with fail
      go_meet
      exact ⟨rfl, rfl, by assumption⟩
  case rest =>
    obtain ⟨rfl, rfl, ht⟩ := hcut
    have HT := Lib.hid ht
    clear ht htd hmd hPD HW wb wm wd2 wd3 wd4
    go_wp2_with fail
    go_loopw [6, 4, 5] (fun i v u wr => ∃ j : Nat, j + 1 ≤ n ∧ i = .int .i64 (j + 1) ∧ v = .int .i64 (bl (sb s) m j) ∧ u = .int .i64 (bh (sb s) m j) ∧ conts (sb s) (j + 1) ∧ Touch NoS w wr) (fun i _ _ _ => n - (intOf i).toNat)
    case atStart => exact ⟨0, by omega, rfl, rfl, rfl, fun i h1 h2 => by omega, HT.out⟩
    case round =>
      obtain ⟨j, hj, rfl, rfl, rfl, hc, ht⟩ := hrel
      have HTj := Lib.hid ht
      clear ht HT
      have hv := bb_bound (sb s) m (j + 1) (by omega) hm0 hm1 hc j (by omega)
      obtain ⟨v, hvv⟩ : ∃ v, v = bl (sb s) m j := ⟨_, rfl⟩
      obtain ⟨u, huu⟩ : ∃ u, u = bh (sb s) m j := ⟨_, rfl⟩
      rw [← hvv, ← huu] at hv ⊢
      obtain ⟨hv0, hv1, hu0, hu1⟩ := hv
      by_cases hjn : j + 1 < n
      · have hjn' : (j : Int) + 1 < n := by omega
        have hnl : bl (sb s) m (j + 1) = 64 * v + (if j + 1 < s.size then (sb s).getD (j + 1) 0 - 128 else 0) := by
          rw [← sb_length s, hvv]; rfl
        have hnh : bh (sb s) m (j + 1) = 64 * u + (if j + 1 < s.size then (sb s).getD (j + 1) 0 - 128 else 63) := by
          rw [← sb_length s, huu]; rfl
        by_cases hjs : j + 1 < s.size
        · rw [if_pos hjs, sb_getD s (j + 1) hjs] at hnl hnh
          have hjs' : (j : Int) + 1 < s.size := by omega
          have hx0 : (0 : Int) ≤ ((s[j + 1].toNat : Nat) : Int) := by omega
          have hx1 : ((s[j + 1].toNat : Nat) : Int) ≤ 255 := by have := s[j + 1].toNat_lt; omega
          have hgx : (sb s).getD (j + 1) 0 = ((s[j + 1].toNat : Nat) : Int) := sb_getD s (j + 1) hjs
          by_cases hlo : ((s[j + 1].toNat : Nat) : Int) < 128
          · have hncont : ¬ conts (sb s) n := fun h => by
              have := h (j + 1) (by omega) hjn (by rw [sb_length]; exact hjs)
              rw [hgx] at this
              omega
            rw [if_neg hncont] at HRR
            clear hncont hnl hnh hgx hvv huu hc
            go_wp2
            go_ret
            exact ⟨by rw [HRR.out]; rfl, HTj.out⟩
          by_cases hhi : 191 < ((s[j + 1].toNat : Nat) : Int)
          · have hncont : ¬ conts (sb s) n := fun h => by
              have := h (j + 1) (by omega) hjn (by rw [sb_length]; exact hjs)
              rw [hgx] at this
              omega
            rw [if_neg hncont] at HRR
            clear hncont hnl hnh hgx hvv huu hc
            go_wp2
            go_ret
            exact ⟨by rw [HRR.out]; rfl, HTj.out⟩
          have hc2 : conts (sb s) (j + 1 + 1) := by
            intro i h1 h2 h3
            by_cases hi : i = j + 1
            · rw [hi, hgx]; omega
            · exact hc i h1 (by omega) h3
          have HNL := Lib.hid hnl
          have HNH := Lib.hid hnh
          have HC2 := Lib.hid hc2
          clear hnl hnh hgx hvv huu hc hc2
          go_wp2_with fail
          have q0 : (0 : Int) ≤ (j : Int) + 1 := by omega
          have q1 : ((j : Int) + 1).toNat = j + 1 := by omega
          have q2 : IntKind.i64.wrap ((s[j + 1].toNat : Nat) : Int) = ((s[j + 1].toNat : Nat) : Int) := IntWalk.i64_in _ (by omega)
          have q3 : IntKind.i64.wrap (((s[j + 1].toNat : Nat) : Int) - 128) = ((s[j + 1].toNat : Nat) : Int) - 128 := IntWalk.i64_in _ (by omega)
          go_quiet (fail)
          clear q2 q3
          go_wp2_with fail
          go_roundw
          · exact ⟨j + 1, by omega, by go_num, by rw [HNL.out], by rw [HNH.out], HC2.out, HTj.out.drewN _⟩
          · simp [intOf]; omega
        · rw [if_neg hjs] at hnl hnh
          have hjs' : (s.size : Int) ≤ (j : Int) + 1 := by omega
          have hc2 : conts (sb s) (j + 1 + 1) := by
            intro i h1 h2 h3
            rw [sb_length] at h3
            exact hc i h1 (by omega) (by rw [sb_length]; exact h3)
          have HNL := Lib.hid hnl
          have HNH := Lib.hid hnh
          have HC2 := Lib.hid hc2
          clear hnl hnh hvv huu hc hc2
          go_wp2_with fail
          go_roundw
          · exact ⟨j + 1, by omega, by go_num, by rw [HNL.out, Int.add_zero], by rw [HNH.out], HC2.out, HTj.out⟩
          · simp [intOf]; omega
      · have hj1 : n - 1 = j := by omega
        have hj2 : j + 1 = n := by omega
        rw [hj2] at hc
        rw [if_pos hc, hj1, ← hvv, ← huu] at HRR
        have hnn : (j : Int) + 1 = n := by omega
        clear hvv huu hc
        have hn3 : n = 2 ∨ n = 3 ∨ n = 4 := by omega
        go_upto_region 14 with (fail)
        go_cut [9, 10] (fun a c wx => a = .int .i64 (from3 n) ∧ c = .int .i64 (to3 n) ∧ Touch NoS w wx)
        case first =>
          rcases hn3 with rfl | rfl | rfl
          all_goals
            go_region
          all_goals
            go_wp2_with fail
            go_meet
            exact ⟨rfl, rfl, by repeat (with_reducible first | exact HTj.out | refine Touch.alloc ?_ _ | refine Touch.drew ?_ | refine Touch.drewN ?_ _)⟩
        case rest =>
          obtain ⟨rfl, rfl, ht⟩ := hcut
          have HT := Lib.hid ht
          clear ht HTj
          by_cases c1 : max v (from3 n) ≤ min u (to3 n)
          · by_cases c2 : 55296 ≤ max v (from3 n)
            · by_cases c3 : min u (to3 n) ≤ 57343
              · have hf : fin3 v u n = false := by unfold fin3; simp only [c1, c2, c3, decide_true]; rfl
                rw [hf] at HRR
                clear hf
                go_wp2
                go_ret
                exact ⟨by rw [HRR.out]; rfl, HT.out⟩
              · have hf : fin3 v u n = true := by unfold fin3; simp only [c1, c2, c3, decide_true, decide_false]; rfl
                rw [hf] at HRR
                clear hf
                go_wp2
                go_ret
                exact ⟨by rw [HRR.out]; rfl, HT.out⟩
            · have hf : fin3 v u n = true := by unfold fin3; simp only [c1, c2, decide_true, decide_false, Bool.false_and]; rfl
              rw [hf] at HRR
              clear hf
              go_wp2
              go_ret
              exact ⟨by rw [HRR.out]; rfl, HT.out⟩
          · have hf : fin3 v u n = false := by unfold fin3; simp only [c1, decide_false, Bool.false_and]
            rw [hf] at HRR
            clear hf
            go_wp2
            go_ret
            exact ⟨by rw [HRR.out]; rfl, HT.out⟩
end Go.Proofs.Ytfafpcmdgjmlhaa
