/- The document's letters (pendentiveref03): Put, long, pow. -/
import Derived.Test.YtfafpcmdgjmlhaaUd
namespace Go.Proofs.Ytfafpcmdgjmlhaa
open Go.RowKit
set_option linter.unusedSimpArgs false
set_option linter.unusedVariables false

/-- A letter's bytes. -/
def put3 (n : Int) : Option (List Int) :=
  if n < 0 ∨ 1114111 < n ∨ (55296 ≤ n ∧ n ≤ 57343) then none
  else if n < 128 then some [n]
  else if n < 2048 then some [192 + n / 64, 128 + n % 64]
  else if n < 65536 then some [224 + n / 4096, 128 + n / 64 % 64, 128 + n % 64]
  else some [240 + n / 262144, 128 + n / 4096 % 64, 128 + n / 64 % 64, 128 + n % 64]
def putS (n : Int) : ByteArray := Go.strOfNums ((put3 n).getD [])

set_option maxHeartbeats 1600000 in
theorem r3_put (n : Int) (w : World) : Calls Try.prog 85 #[.int .i64 n] w fun e w' => e = .returned (.tuple #[.string (putS n), .bool (put3 n).isSome]) ∧ Touch NoS w w' := by
  have ko := conv_one
  have k2 := conv_two
  have k3 := conv_three
  have k4 := conv_four
  by_cases h0 : n < 0
  · have hp : put3 n = none := by unfold put3; rw [if_pos (by omega)]
    unfold putS
    rw [hp]
    clear hp
    go_enter Try.func85, Try.ntmps85
    go_wp2
    go_ret2
    exact ⟨rfl, Touch.refl _ _⟩
  by_cases h1 : 1114111 < n
  · have hp : put3 n = none := by unfold put3; rw [if_pos (by omega)]
    unfold putS
    rw [hp]
    clear hp
    go_enter Try.func85, Try.ntmps85
    go_wp2
    go_ret2
    exact ⟨rfl, Touch.refl _ _⟩
  by_cases h2 : 55296 ≤ n ∧ n ≤ 57343
  · have hp : put3 n = none := by unfold put3; rw [if_pos (by omega)]
    unfold putS
    rw [hp]
    clear hp
    obtain ⟨h3, h4⟩ := h2
    go_enter Try.func85, Try.ntmps85
    go_wp2
    go_ret2
    exact ⟨rfl, Touch.refl _ _⟩
  by_cases t1 : n < 128
  · have hp : put3 n = some [n] := by unfold put3; rw [if_neg (by omega), if_pos t1]
    unfold putS
    rw [hp]
    clear hp h2
    have g0 : 0 ≤ n := by omega
    go_enter Try.func85, Try.ntmps85
    go_wp2
    go_ret2
    exact ⟨rfl, (Touch.refl _ _).alloc _⟩
  by_cases t2 : n < 2048
  · have hp : put3 n = some [192 + n / 64, 128 + n % 64] := by unfold put3; rw [if_neg (by omega), if_neg t1, if_pos t2]
    unfold putS
    rw [hp]
    clear hp h2
    have g0 : 0 ≤ n := by omega
    go_enter Try.func85, Try.ntmps85
    go_wp2
    go_ret2
    exact ⟨rfl, (Touch.refl _ _).alloc _⟩
  by_cases t3 : n < 65536
  · have hp : put3 n = some [224 + n / 4096, 128 + n / 64 % 64, 128 + n % 64] := by unfold put3; rw [if_neg (by omega), if_neg t1, if_neg t2, if_pos t3]
    unfold putS
    rw [hp]
    have g0 : 0 ≤ n := by omega
    by_cases h3 : n < 55296
    · clear hp h2
      go_enter Try.func85, Try.ntmps85
      go_wp2
      go_ret2
      exact ⟨rfl, (Touch.refl _ _).alloc _⟩
    · have h4 : 57343 < n := by omega
      clear hp h2
      go_enter Try.func85, Try.ntmps85
      go_wp2
      go_ret2
      exact ⟨rfl, (Touch.refl _ _).alloc _⟩
  · have hp : put3 n = some [240 + n / 262144, 128 + n / 4096 % 64, 128 + n / 64 % 64, 128 + n % 64] := by unfold put3; rw [if_neg (by omega), if_neg t1, if_neg t2, if_neg t3]
    unfold putS
    rw [hp]
    have g0 : 0 ≤ n := by omega
    have h4 : 57343 < n := by omega
    clear hp h2
    go_enter Try.func85, Try.ntmps85
    go_wp2
    go_ret2
    exact ⟨rfl, (Touch.refl _ _).alloc _⟩

/-- How many bytes by the first one. -/
def long3 (b : Int) : Nat := if b < 128 then 1 else if 192 ≤ b ∧ b < 224 then 2 else if 224 ≤ b ∧ b < 240 then 3 else if 240 ≤ b ∧ b < 248 then 4 else 0
set_option maxHeartbeats 1600000 in
theorem r3_long (b : Int) (h0 : 0 ≤ b) (h1 : b ≤ 255) (w : World) : Calls Try.prog 83 #[.int .u8 b] w fun e w' => e = .returned (.int .i64 (long3 b)) ∧ w = w' := by
  unfold long3
  by_cases t1 : b < 128
  · rw [if_pos t1]
    go_enter Try.func83, Try.ntmps83
    go_wp2
    go_ret
    exact ⟨rfl, rfl⟩
  by_cases t2 : 192 ≤ b ∧ b < 224
  · rw [if_neg t1, if_pos t2]
    obtain ⟨k1, k2⟩ := t2
    go_enter Try.func83, Try.ntmps83
    go_wp2
    go_ret
    exact ⟨rfl, rfl⟩
  by_cases t3 : 224 ≤ b ∧ b < 240
  · rw [if_neg t1, if_neg t2, if_pos t3]
    obtain ⟨k1, k2⟩ := t3
    clear t2
    go_enter Try.func83, Try.ntmps83
    go_wp2
    go_ret
    exact ⟨rfl, rfl⟩
  by_cases t4 : 240 ≤ b ∧ b < 248
  · rw [if_neg t1, if_neg t2, if_neg t3, if_pos t4]
    obtain ⟨k1, k2⟩ := t4
    clear t2 t3
    go_enter Try.func83, Try.ntmps83
    go_wp2
    go_ret
    exact ⟨rfl, rfl⟩
  rw [if_neg t1, if_neg t2, if_neg t3, if_neg t4]
  by_cases t5 : b < 192
  · clear t2 t3 t4
    go_enter Try.func83, Try.ntmps83
    go_wp2
    go_ret
    exact ⟨rfl, rfl⟩
  · have t6 : 248 ≤ b := by omega
    clear t2 t3 t4
    go_enter Try.func83, Try.ntmps83
    go_wp2
    go_ret
    exact ⟨rfl, rfl⟩
def pow3 (n : Nat) : Int := match n with | 0 => 0 | 1 => 1 | 2 => 8 | 3 => 16 | _ => 32
set_option maxHeartbeats 1600000 in
theorem r3_pow (n : Nat) (hn : n ≤ 4) (w : World) : Calls Try.prog 84 #[.int .i64 n] w fun e w' => e = .returned (.int .i64 (pow3 n)) ∧ Touch NoS w w' := by
  rcases n with _ | _ | _ | _ | _ | n
  all_goals first | (exfalso; omega) | skip
  all_goals
    go_enter Try.func84, Try.ntmps84
    go_wp2
    go_ret
    exact ⟨rfl, (Touch.refl _ _).alloc _⟩
end Go.Proofs.Ytfafpcmdgjmlhaa
