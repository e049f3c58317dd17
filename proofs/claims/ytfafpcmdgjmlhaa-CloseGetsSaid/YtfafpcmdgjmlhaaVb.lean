/- The document's letters: whole. -/
import Derived.Test.YtfafpcmdgjmlhaaVa
import Derived.Deep.RegionHeld3
import Derived.Deep.LoopGhost
import Derived.Deep.DeepCutAuto
import Derived.Deep.CutBlock
import Derived.IntWalk
namespace Go.Proofs.Ytfafpcmdgjmlhaa
open Go.RowKit
set_option linter.unusedSimpArgs false
set_option linter.unusedVariables false

theorem put3_in (n : Int) : bytesIn ((put3 n).getD []) := by
  unfold put3
  repeat' split
  all_goals
    intro x hx
    simp only [Option.getD_none, Option.getD_some, List.mem_cons, List.not_mem_nil, or_false] at hx
  all_goals omega

/-- The number that a letter's bytes say, behind j of them that follow. -/
def vx (l : List Int) (m : Int) : Nat → Int
  | 0 => m
  | j + 1 => 64 * vx l m j + l.getD (j + 1) 0 % 64
def first3 (l : List Int) (n : Nat) : Int := l.getD 0 0 % (256 / pow3 n)
def whole3 (l : List Int) : Nat :=
  if long3 (l.getD 0 0) = 0 ∨ l.length < long3 (l.getD 0 0) then 0
  else if put3 (vx l (first3 l (long3 (l.getD 0 0))) (long3 (l.getD 0 0) - 1)) = some (l.take (long3 (l.getD 0 0))) then long3 (l.getD 0 0) else 0
theorem long3_le (b : Int) : long3 b ≤ 4 := by
  unfold long3
  repeat' split
  all_goals omega
theorem vx_bound (l : List Int) (m : Int) (h0 : 0 ≤ m) (h1 : m ≤ 255) : ∀ j, j ≤ 3 → 0 ≤ vx l m j ∧ vx l m j ≤ 67108863 := by
  have a1 : 0 ≤ vx l m 1 ∧ vx l m 1 ≤ 16383 := by show 0 ≤ 64 * m + l.getD 1 0 % 64 ∧ 64 * m + l.getD 1 0 % 64 ≤ 16383; omega
  have a2 : 0 ≤ vx l m 2 ∧ vx l m 2 ≤ 1048575 := by show 0 ≤ 64 * vx l m 1 + l.getD 2 0 % 64 ∧ 64 * vx l m 1 + l.getD 2 0 % 64 ≤ 1048575; omega
  have a3 : 0 ≤ vx l m 3 ∧ vx l m 3 ≤ 67108863 := by show 0 ≤ 64 * vx l m 2 + l.getD 3 0 % 64 ∧ 64 * vx l m 2 + l.getD 3 0 % 64 ≤ 67108863; omega
  intro j hj
  rcases j with _ | _ | _ | _ | j
  · exact ⟨h0, by show m ≤ 67108863; omega⟩
  · exact ⟨a1.1, Int.le_trans a1.2 (by decide)⟩
  · exact ⟨a2.1, Int.le_trans a2.2 (by decide)⟩
  · exact a3
  · omega

set_option maxHeartbeats 3200000 in
theorem r3_whole (s : ByteArray) (hs : 0 < s.size) (hs2 : s.size ≤ 1000) (w : World) : Calls Try.prog 79 #[.string s] w fun e w' => e = .returned (.int .i64 (whole3 (sb s))) ∧ Touch NoS w w' := by
  obtain ⟨b, hb⟩ : ∃ b : Int, b = ((s[0].toNat : Nat) : Int) := ⟨_, rfl⟩
  have hb0 : 0 ≤ b := by omega
  have hb1 : b ≤ 255 := by have := s[0].toNat_lt; omega
  have hg : (sb s).getD 0 0 = b := by rw [sb_getD s 0 hs, hb]
  obtain ⟨n, hn⟩ : ∃ n, n = long3 b := ⟨_, rfl⟩
  have hn4 : n ≤ 4 := by rw [hn]; exact long3_le b
  have HL := Lib.hid (fun W => r3_long b hb0 hb1 W)
  by_cases h0 : n = 0
  · have hr : whole3 (sb s) = 0 := by unfold whole3; rw [hg, ← hn, if_pos (.inl h0)]
    rw [hr]
    rw [← hn] at HL
    subst h0
    clear hr hn
    go_enter Try.func79, Try.ntmps79
    go_wp2_with fail
    rw [← hb]
    refine (HL.out _).mono ?_
    rintro e w1 ⟨rfl, rfl⟩
    go_wp2
    go_ret
    exact ⟨rfl, Touch.refl _ _⟩
  by_cases h1 : s.size < n
  · have hr : whole3 (sb s) = 0 := by unfold whole3; rw [hg, ← hn, sb_length, if_pos (.inr h1)]
    rw [hr]
    rw [← hn] at HL
    have n0 : ((n : Int) == 0) = false := by rw [beq_eq_false_iff_ne]; omega
    clear hr hn
    go_enter Try.func79, Try.ntmps79
    go_wp2_with fail
    rw [← hb]
    refine (HL.out _).mono ?_
    rintro e w1 ⟨rfl, rfl⟩
    go_wp2
    go_ret
    exact ⟨rfl, Touch.refl _ _⟩
  have n0 : ((n : Int) == 0) = false := by rw [beq_eq_false_iff_ne]; omega
  obtain ⟨m, hm⟩ : ∃ m, m = first3 (sb s) n := ⟨_, rfl⟩
  have hr : whole3 (sb s) = if put3 (vx (sb s) m (n - 1)) = some ((sb s).take n) then n else 0 := by unfold whole3; rw [hg, ← hn, sb_length, if_neg (by omega), ← hm]
  obtain ⟨P, D, hP, hPD, hmd, hm0, hm1⟩ : ∃ P D : Int, pow3 n = P ∧ ((P = 1 ∧ D = 256) ∨ (P = 8 ∧ D = 32) ∨ (P = 16 ∧ D = 16) ∨ (P = 32 ∧ D = 8)) ∧ Int.tmod ((s[0].toNat : Nat) : Int) D = m ∧ 0 ≤ m ∧ m ≤ 255 := by
    unfold first3 at hm
    rw [hg] at hm
    rw [← hb]
    rcases n with _ | _ | _ | _ | _ | n
    · omega
    · exact ⟨1, 256, rfl, by simp, by rw [Int.tmod_eq_emod_of_nonneg hb0]; exact hm.symm, by rw [hm]; show 0 ≤ b % 256; omega, by rw [hm]; show b % 256 ≤ 255; omega⟩
    · exact ⟨8, 32, rfl, by simp, by rw [Int.tmod_eq_emod_of_nonneg hb0]; exact hm.symm, by rw [hm]; show 0 ≤ b % 32; omega, by rw [hm]; show b % 32 ≤ 255; omega⟩
    · exact ⟨16, 16, rfl, by simp, by rw [Int.tmod_eq_emod_of_nonneg hb0]; exact hm.symm, by rw [hm]; show 0 ≤ b % 16; omega, by rw [hm]; show b % 16 ≤ 255; omega⟩
    · exact ⟨32, 8, rfl, by simp, by rw [Int.tmod_eq_emod_of_nonneg hb0]; exact hm.symm, by rw [hm]; show 0 ≤ b % 8; omega, by rw [hm]; show b % 8 ≤ 255; omega⟩
    · omega
  obtain ⟨R, hR⟩ : ∃ R, R = whole3 (sb s) := ⟨_, rfl⟩
  rw [← hR]
  rw [← hR] at hr
  have HRR := Lib.hid hr
  clear hR
  rw [← hn] at HL
  have HW := Lib.hid (fun W => r3_pow n hn4 W)
  rw [hP] at HW
  have HM := Lib.hid hm
  have HG := Lib.hid hg
  have htd : Touch NoS w w.drew := (Touch.refl _ _).drew
  clear hr hn hm hP hg
  have wb : IntKind.i64.wrap ((s[0].toNat : Nat) : Int) = ((s[0].toNat : Nat) : Int) := IntWalk.i64_in _ (by omega)
  have wm : IntKind.i64.wrap m = m := IntWalk.i64_in _ (by omega)
  have wd1 : IntKind.i64.wrap 256 = 256 := by decide
  have wd2 : IntKind.i64.wrap 32 = 32 := by decide
  have wd3 : IntKind.i64.wrap 16 = 16 := by decide
  have wd4 : IntKind.i64.wrap 8 = 8 := by decide
  go_enter Try.func79, Try.ntmps79
  go_wp2_with fail
  rw [← hb]
  refine (HL.out _).mono ?_
  rintro e w1 ⟨rfl, rfl⟩
  go_upto_region 4 with (fail)
  go_cut [4] (fun v wx => v = .int .i64 m ∧ Touch NoS w wx)
  case first =>
    rcases hPD with ⟨rfl, rfl⟩ | ⟨rfl, rfl⟩ | ⟨rfl, rfl⟩ | ⟨rfl, rfl⟩
    all_goals
      go_region_held3 (fun w' => Touch NoS w w')
        (first | assumption | go_keep)
        (first | (go_at_call 84; refine (HW.out _).mono ?_; rintro e w' ⟨rfl, ht1⟩; have k3 := htd.trans ht1))
    all_goals
      go_wp2_with fail
      go_meet
      exact ⟨rfl, by assumption⟩
  case rest =>
    obtain ⟨rfl, ht⟩ := hcut
    have HT := Lib.hid ht
    clear ht htd hmd hPD HW wb wm wd1 wd2 wd3 wd4
    go_wp2_with fail
    go_loopw [5, 4] (fun i v wr => ∃ j : Nat, j + 1 ≤ n ∧ i = .int .i64 (j + 1) ∧ v = .int .i64 (vx (sb s) m j) ∧ Touch NoS w wr) (fun i _ _ => n - (intOf i).toNat)
    case atStart => exact ⟨0, by omega, rfl, rfl, HT.out⟩
    case round =>
      obtain ⟨j, hj, rfl, rfl, ht⟩ := hrel
      have HTj := Lib.hid ht
      clear ht HT
      have hv := vx_bound (sb s) m hm0 hm1 j (by omega)
      obtain ⟨v, hvv⟩ : ∃ v, v = vx (sb s) m j := ⟨_, rfl⟩
      rw [← hvv] at hv ⊢
      obtain ⟨hv0, hv1⟩ := hv
      by_cases hjn : j + 1 < n
      · have hjs : j + 1 < s.size := by omega
        have hnext : vx (sb s) m (j + 1) = 64 * v + ((s[j + 1].toNat : Nat) : Int) % 64 := by
          show 64 * vx (sb s) m j + (sb s).getD (j + 1) 0 % 64 = _
          rw [sb_getD s (j + 1) hjs, hvv]
        have HN := Lib.hid hnext
        have hjs' : (j : Int) + 1 < s.size := by omega
        have hx0 : (0 : Int) ≤ ((s[j + 1].toNat : Nat) : Int) := by omega
        have hx1 : ((s[j + 1].toNat : Nat) : Int) ≤ 255 := by have := s[j + 1].toNat_lt; omega
        clear hnext hvv
        go_wp2_with fail
        go_roundw
        · exact ⟨j + 1, by omega, by go_num, by rw [HN.out], HTj.out⟩
        · simp [intOf]; omega
      · have hj1 : n - 1 = j := by omega
        rw [hj1, ← hvv] at HRR
        have hnn : (j : Int) + 1 = n := by omega
        clear hvv
        go_wp2_with fail
        refine (r3_put v _).mono ?_
        rintro e w2 ⟨rfl, ht⟩
        have HT2 := Lib.hid (HTj.out.trans ht)
        clear ht HTj
        cases hp : put3 v with
        | none =>
          rw [hp, if_neg (by simp)] at HRR
          have HP := Lib.hid hp
          clear hp
          rw [show (none : Option (List Int)).isSome = false from rfl]
          go_wp2
          go_ret
          exact ⟨by rw [HRR.out]; rfl, HT2.out⟩
        | some bs =>
          rw [hp] at HRR
          rw [show (some bs).isSome = true from rfl]
          have hbs : bytesIn bs := by have := put3_in v; rw [hp] at this; exact this
          have hps : putS v = Go.strOfNums bs := by unfold putS; rw [hp]; rfl
          rw [hps]
          have heq : (Go.strOfNums bs = s.extract 0 n) ↔ bs = (sb s).take n := by
            constructor
            · intro h
              have := congrArg sb h
              rw [sb_nums bs hbs, sb_extract] at this
              simpa using this
            · intro h
              apply sb_inj
              rw [sb_nums bs hbs, sb_extract, h]
              simp
          by_cases hq : bs = (sb s).take n
          · rw [if_pos (by rw [hq])] at HRR
            have hq2 : ((Go.strOfNums bs).toList == (s.extract 0 n).toList) = true := by rw [str_eq]; exact decide_eq_true (heq.2 hq)
            clear heq hps hp hbs hq
            go_wp2
            go_ret
            exact ⟨by rw [HRR.out]; rfl, HT2.out⟩
          · rw [if_neg (by intro h; injection h with h; exact hq h)] at HRR
            have hq2 : ((Go.strOfNums bs).toList == (s.extract 0 n).toList) = false := by rw [str_eq]; exact decide_eq_false (fun h => hq (heq.1 h))
            clear heq hps hp hbs hq
            go_wp2
            go_ret
            exact ⟨by rw [HRR.out]; rfl, HT2.out⟩
end Go.Proofs.Ytfafpcmdgjmlhaa
