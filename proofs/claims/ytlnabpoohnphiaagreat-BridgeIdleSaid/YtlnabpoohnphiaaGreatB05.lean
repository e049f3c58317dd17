/- frame: Control, known, Check. | slices.Grow of nil, slices.Concat of rows of bytes. | frame: Size, Put. -/
import Derived.Test.YtlnabpoohnphiaaGreatB03
import Derived.Test.YtlnabpoohnphiaaGreatB02
import Derived.Lib.AppendZerosOnto
import Derived.StillTailTactics
/- frame: Control, known, Check. -/
namespace Go.Proofs.YtlnabpoohnphiaaGreat
open Go.RowKit
set_option linter.unusedSimpArgs false
set_option linter.unusedVariables false

def control9 (op : Int) : Bool := decide (8 ≤ op ∧ op ≤ 10)
def known9 (op : Int) : Bool := decide ((8 ≤ op ∧ op ≤ 10) ∨ (0 ≤ op ∧ op ≤ 2))

theorem f_control (op : Int) (w : World) : Calls Tryz.prog 125 #[.int .i64 op] w fun e w' => e = .returned (.bool (control9 op)) ∧ w = w' := by
  unfold control9
  by_cases h : op = 8 ∨ op = 9 ∨ op = 10
  · rw [decide_eq_true (by omega)]
    rcases h with rfl | rfl | rfl
    all_goals
      go_enter Tryz.func125, Tryz.ntmps125
      go_wp2
      go_ret
      exact ⟨rfl, rfl⟩
  · rw [decide_eq_false (by omega)]
    have h1 : (op == 8) = false := by rw [beq_eq_false_iff_ne]; omega
    have h2 : (op == 9) = false := by rw [beq_eq_false_iff_ne]; omega
    have h3 : (op == 10) = false := by rw [beq_eq_false_iff_ne]; omega
    clear h
    go_enter Tryz.func125, Tryz.ntmps125
    go_wp2
    go_ret
    exact ⟨rfl, rfl⟩
theorem f_known (op : Int) (w : World) : Calls Tryz.prog 132 #[.int .i64 op] w fun e w' => e = .returned (.bool (known9 op)) ∧ w = w' := by
  cases hc : control9 op
  · have hk : known9 op = decide (0 ≤ op ∧ op ≤ 2) := by
      unfold known9 control9 at *
      have := of_decide_eq_false hc
      exact decide_eq_decide.2 (by omega)
    rw [hk]
    by_cases h : op = 0 ∨ op = 1 ∨ op = 2
    · rw [decide_eq_true (by omega)]
      rcases h with rfl | rfl | rfl
      all_goals
        clear hk
        go_enter Tryz.func132, Tryz.ntmps132
        go_wp2_with fail
        refine (f_control _ _).mono ?_
        rintro e w1 ⟨rfl, rfl⟩
        rw [hc]
        go_wp2
        go_ret
        exact ⟨rfl, rfl⟩
    · rw [decide_eq_false (by omega)]
      have h1 : (op == 0) = false := by rw [beq_eq_false_iff_ne]; omega
      have h2 : (op == 1) = false := by rw [beq_eq_false_iff_ne]; omega
      have h3 : (op == 2) = false := by rw [beq_eq_false_iff_ne]; omega
      clear h hk
      go_enter Tryz.func132, Tryz.ntmps132
      go_wp2_with fail
      refine (f_control _ _).mono ?_
      rintro e w1 ⟨rfl, rfl⟩
      rw [hc]
      go_wp2
      go_ret
      exact ⟨rfl, rfl⟩
  · have hk : known9 op = true := by
      unfold known9 control9 at *
      have := of_decide_eq_true hc
      exact decide_eq_true (by omega)
    rw [hk]
    clear hk
    go_enter Tryz.func132, Tryz.ntmps132
    go_wp2_with fail
    refine (f_control _ _).mono ?_
    rintro e w1 ⟨rfl, rfl⟩
    rw [hc]
    go_wp2
    go_ret
    exact ⟨rfl, rfl⟩

/-- May a frame be, however long? -/
def form9 (f : Fr) : Bool := known9 f.op && !(control9 f.op && (!f.fin || decide (125 < f.data.size))) && !(!f.masked && decide (f.key ≠ [0, 0, 0, 0]))
def check9 (f : Fr) : Int := if form9 f = true then (if 65536 < f.data.size then 92 else 0) else 91

set_option maxHeartbeats 3200000 in
set_option maxRecDepth 100000 in
theorem f_check (f : Fr) (hf : f.good) (w : World) : Calls Tryz.prog 111 #[.agg f.cs] w fun e w' => e = .returned (.int .i64 (check9 f)) ∧ Touch NoS w w' := by
  obtain ⟨fin, op, masked, k0, k1, k2, k3, d⟩ := f
  obtain ⟨_, _, hz⟩ := hf
  have hz2 : d.size ≤ 2 ^ 63 - 1 := hz
  obtain ⟨R, hR⟩ : ∃ R, R = check9 ⟨fin, op, masked, k0, k1, k2, k3, d⟩ := ⟨_, rfl⟩
  rw [← hR]
  unfold check9 form9 Fr.key at hR
  simp only at hR
  simp only [Fr.cs]
  have hr : R = if (known9 op && !(control9 op && (!fin || decide (125 < d.size))) && !(!masked && decide ([k0, k1, k2, k3] ≠ [0, 0, 0, 0]))) = true then (if 65536 < d.size then 92 else 0) else 91 := hR
  obtain ⟨kn, hkn⟩ : ∃ kn, kn = known9 op := ⟨_, rfl⟩
  obtain ⟨cn, hcn⟩ : ∃ cn, cn = control9 op := ⟨_, rfl⟩
  have HK := Lib.hid (f_known op)
  have HC := Lib.hid (f_control op)
  rw [← hkn] at hr HK
  rw [← hcn] at hr HC
  clear hR hz hkn hcn
  cases kn with
  | false =>
    rw [if_neg (by simp)] at hr
    subst hr
    go_enter Tryz.func111, Tryz.ntmps111
    go_wp2_with fail
    refine (HK.out _).mono ?_
    rintro e w1 ⟨rfl, rfl⟩
    go_wp2
    go_ret
    exact ⟨rfl, (Touch.refl _ _).alloc _⟩
  | true =>
    by_cases hbad : (cn && (!fin || decide (125 < d.size))) = true
    · rw [if_neg (by rw [hbad]; simp)] at hr
      subst hr
      cases cn with
      | false => simp at hbad
      | true =>
        cases fin with
        | false =>
          clear hbad
          go_enter Tryz.func111, Tryz.ntmps111
          go_wp2_with fail
          refine (HK.out _).mono ?_
          rintro e w1 ⟨rfl, rfl⟩
          go_wp2_with fail
          refine (HC.out _).mono ?_
          rintro e w1 ⟨rfl, rfl⟩
          go_wp2
          go_ret
          exact ⟨rfl, (Touch.refl _ _).alloc _⟩
        | true =>
          have h125 : 125 < d.size := by simpa using hbad
          clear hbad
          go_enter Tryz.func111, Tryz.ntmps111
          go_wp2_with fail
          refine (HK.out _).mono ?_
          rintro e w1 ⟨rfl, rfl⟩
          go_wp2_with fail
          refine (HC.out _).mono ?_
          rintro e w1 ⟨rfl, rfl⟩
          go_wp2
          go_ret
          exact ⟨rfl, (Touch.refl _ _).alloc _⟩
    · have hbad2 : (cn && (!fin || decide (125 < d.size))) = false := by simpa using hbad
      rw [hbad2] at hr
      simp only [Bool.not_false, Bool.and_true, Bool.true_and] at hr
      cases cn with
      | false =>
        clear hbad hbad2
        cases masked with
        | true =>
          rw [if_pos (by simp)] at hr
          by_cases hbig : 65536 < d.size
          · rw [if_pos hbig] at hr
            subst hr
            go_enter Tryz.func111, Tryz.ntmps111
            go_wp2_with fail
            refine (HK.out _).mono ?_
            rintro e w1 ⟨rfl, rfl⟩
            go_wp2_with fail
            refine (HC.out _).mono ?_
            rintro e w1 ⟨rfl, rfl⟩
            go_wp2
            go_ret
            exact ⟨rfl, by repeat (with_reducible first | exact Touch.refl _ _ | refine Touch.alloc ?_ _)⟩
          · rw [if_neg hbig] at hr
            subst hr
            go_enter Tryz.func111, Tryz.ntmps111
            go_wp2_with fail
            refine (HK.out _).mono ?_
            rintro e w1 ⟨rfl, rfl⟩
            go_wp2_with fail
            refine (HC.out _).mono ?_
            rintro e w1 ⟨rfl, rfl⟩
            go_wp2
            go_ret
            exact ⟨rfl, by repeat (with_reducible first | exact Touch.refl _ _ | refine Touch.alloc ?_ _)⟩
        | false =>
          by_cases hz0 : [k0, k1, k2, k3] = [0, 0, 0, 0]
          · rw [if_pos (by simp [hz0])] at hr
            simp only [List.cons.injEq, and_true] at hz0
            obtain ⟨rfl, rfl, rfl, rfl⟩ := hz0
            have hneq : ∀ w, (binOp .neq 40 (.agg #[.int .u8 0, .int .u8 0, .int .u8 0, .int .u8 0]) (.agg #[.int .u8 0, .int .u8 0, .int .u8 0, .int .u8 0])).run Tryz.prog w = .ok (.bool false) w := fun w => by rw [neq_key]; rfl
            by_cases hbig : 65536 < d.size
            · rw [if_pos hbig] at hr
              subst hr
              go_enter Tryz.func111, Tryz.ntmps111
              go_wp2_with fail
              refine (HK.out _).mono ?_
              rintro e w1 ⟨rfl, rfl⟩
              go_wp2_with fail
              refine (HC.out _).mono ?_
              rintro e w1 ⟨rfl, rfl⟩
              go_wp2
              go_ret
              exact ⟨rfl, by repeat (with_reducible first | exact Touch.refl _ _ | refine Touch.alloc ?_ _)⟩
            · rw [if_neg hbig] at hr
              subst hr
              go_enter Tryz.func111, Tryz.ntmps111
              go_wp2_with fail
              refine (HK.out _).mono ?_
              rintro e w1 ⟨rfl, rfl⟩
              go_wp2_with fail
              refine (HC.out _).mono ?_
              rintro e w1 ⟨rfl, rfl⟩
              go_wp2
              go_ret
              exact ⟨rfl, by repeat (with_reducible first | exact Touch.refl _ _ | refine Touch.alloc ?_ _)⟩
          · rw [if_neg (by simp only [Bool.not_false, Bool.true_and, Bool.not_eq_true', decide_eq_false_iff_not, ne_eq, hz0, not_false_eq_true, not_true_eq_false])] at hr
            subst hr
            have hz1 : ([k0, k1, k2, k3] == [0, 0, 0, 0]) = false := by rw [beq_eq_false_iff_ne]; exact hz0
            have hneq : ∀ w, (binOp .neq 40 (.agg #[.int .u8 k0, .int .u8 k1, .int .u8 k2, .int .u8 k3]) (.agg #[.int .u8 0, .int .u8 0, .int .u8 0, .int .u8 0])).run Tryz.prog w = .ok (.bool true) w := fun w => by rw [neq_key, hz1]; rfl
            clear hz0 hz1
            go_enter Tryz.func111, Tryz.ntmps111
            go_wp2_with fail
            refine (HK.out _).mono ?_
            rintro e w1 ⟨rfl, rfl⟩
            go_wp2_with fail
            refine (HC.out _).mono ?_
            rintro e w1 ⟨rfl, rfl⟩
            go_wp2
            go_ret
            exact ⟨rfl, by repeat (with_reducible first | exact Touch.refl _ _ | refine Touch.alloc ?_ _)⟩
      | true =>
        simp only [Bool.true_and, Bool.or_eq_false_iff, Bool.not_eq_false', decide_eq_false_iff_not] at hbad2
        obtain ⟨rfl, h125⟩ := hbad2
        clear hbad
        cases masked with
        | true =>
          rw [if_pos (by simp)] at hr
          rw [if_neg (by omega)] at hr
          subst hr
          go_enter Tryz.func111, Tryz.ntmps111
          go_wp2_with fail
          refine (HK.out _).mono ?_
          rintro e w1 ⟨rfl, rfl⟩
          go_wp2_with fail
          refine (HC.out _).mono ?_
          rintro e w1 ⟨rfl, rfl⟩
          go_wp2
          go_ret
          exact ⟨rfl, by repeat (with_reducible first | exact Touch.refl _ _ | refine Touch.alloc ?_ _)⟩
        | false =>
          by_cases hz0 : [k0, k1, k2, k3] = [0, 0, 0, 0]
          · rw [if_pos (by simp [hz0])] at hr
            simp only [List.cons.injEq, and_true] at hz0
            obtain ⟨rfl, rfl, rfl, rfl⟩ := hz0
            have hneq : ∀ w, (binOp .neq 40 (.agg #[.int .u8 0, .int .u8 0, .int .u8 0, .int .u8 0]) (.agg #[.int .u8 0, .int .u8 0, .int .u8 0, .int .u8 0])).run Tryz.prog w = .ok (.bool false) w := fun w => by rw [neq_key]; rfl
            rw [if_neg (by omega)] at hr
            subst hr
            go_enter Tryz.func111, Tryz.ntmps111
            go_wp2_with fail
            refine (HK.out _).mono ?_
            rintro e w1 ⟨rfl, rfl⟩
            go_wp2_with fail
            refine (HC.out _).mono ?_
            rintro e w1 ⟨rfl, rfl⟩
            go_wp2
            go_ret
            exact ⟨rfl, by repeat (with_reducible first | exact Touch.refl _ _ | refine Touch.alloc ?_ _)⟩
          · rw [if_neg (by simp only [Bool.not_false, Bool.true_and, Bool.not_eq_true', decide_eq_false_iff_not, ne_eq, hz0, not_false_eq_true, not_true_eq_false])] at hr
            subst hr
            have hz1 : ([k0, k1, k2, k3] == [0, 0, 0, 0]) = false := by rw [beq_eq_false_iff_ne]; exact hz0
            have hneq : ∀ w, (binOp .neq 40 (.agg #[.int .u8 k0, .int .u8 k1, .int .u8 k2, .int .u8 k3]) (.agg #[.int .u8 0, .int .u8 0, .int .u8 0, .int .u8 0])).run Tryz.prog w = .ok (.bool true) w := fun w => by rw [neq_key, hz1]; rfl
            clear hz0 hz1
            go_enter Tryz.func111, Tryz.ntmps111
            go_wp2_with fail
            refine (HK.out _).mono ?_
            rintro e w1 ⟨rfl, rfl⟩
            go_wp2_with fail
            refine (HC.out _).mono ?_
            rintro e w1 ⟨rfl, rfl⟩
            go_wp2
            go_ret
            exact ⟨rfl, by repeat (with_reducible first | exact Touch.refl _ _ | refine Touch.alloc ?_ _)⟩
end Go.Proofs.YtlnabpoohnphiaaGreat
/- slices.Grow of nil, slices.Concat of rows of bytes. -/
namespace Go.Proofs.YtlnabpoohnphiaaGreat
open Go.RowKit
set_option linter.unusedSimpArgs false
set_option linter.unusedVariables false

set_option maxHeartbeats 1600000 in
set_option maxRecDepth 100000 in
theorem sl_grow (n : Nat) (hn : n ≤ 140737488355328) (w : World) :
    Calls Tryz.prog 134 #[.slice none 0 0, .int .i64 n] w fun e w' =>
      ∃ v, e = .returned v ∧ w'.ownsRow w.heap.size 5 1 v 0 [] ∧ Touch NoS w w' := by
  by_cases h0 : n = 0
  · subst h0
    go_enter Tryz.func134, Tryz.ntmps134
    go_wp2
    go_ret
    exact ⟨_, rfl, own_nil _ _ _ _, Touch.refl _ _⟩
  · obtain ⟨i, hi, hz, hs, hb⟩ := info_u8
    have hold : (Builtin.firstCells i.size 0 (.slice none 0 0)).run Tryz.prog w.drew = .ok ([] : List Value).toArray w.drew := run_firstCells_none w.drew i.size 0 0 0
    have hrz : ∀ ty, (Builtin.append_ #[43, 3] ty #[.slice none 0 0, .int .i64 n]).run Tryz.prog w = _ := fun ty =>
      Lib.run_append_grow_zeros w 43 3 ty 5 i (.int .u8 0) .i64 .i64 Tryz.underlying43 Tryz.underlying3 hi hz none 0 0 [] hold n (by omega) (by omega) (by omega) (by omega) (by rw [hb]; omega) (by rw [hb]; exact growslice_fits (by omega) (by omega))
    obtain ⟨G, hG⟩ : ∃ G, G = grownCap w (0 + n) 0 5 := ⟨_, rfl⟩
    rw [← hG] at hrz
    have hGn : 0 + n ≤ G := by rw [hG]; exact grownCap_ge w _ _ _
    have hG63 : G ≤ maxLen := by rw [hG]; exact grownCap_le_maxLen w _ _ _ (by unfold maxLen; omega)
    have HG := Lib.hid hGn
    have HM := Lib.hid hG63
    unfold maxLen at hG63
    have hpos : (0 : Int) < n := by omega
    have hG0 : ¬ (G : Int) < 0 := by omega
    clear hold hi hz hs hb hG
    simp only [Nat.zero_add] at hrz
    go_enter Tryz.func134, Tryz.ntmps134
    go_wp2_with (at_builtin; refine Lib.wpList_append_run _ rfl _ _ _ _ rfl _ _ rfl rfl _ _ (hrz _) ?_)
    go_ret
    refine ⟨_, rfl, ⟨by simp, .inr ⟨w.heap.size, G, _, rfl, Nat.le_refl _, Blk.new _ _ _, by omega, HM.out, ?_, ?_⟩⟩, ?_⟩
    · simp [Builtin.zeroCells, Value.cells]; omega
    · simp
    · exact ((Touch.refl _ _).drew).alloc _

/-- The cells of slices of bytes. -/
def sls (ss : List (Option Addr × Nat × List Int)) : List Value := ss.map fun s => .slice s.1 s.2.2.length s.2.1
def flat (ss : List (Option Addr × Nat × List Int)) : List Int := ss.flatMap fun s => s.2.2
theorem sls_at {w : World} {A : Option Addr} {ss : List (Option Addr × Nat × List Int)} (h : Rd w A (sls ss)) (k : Nat) (hk : k < ss.length) : ∃ g off, A = some ⟨g, off, none⟩ ∧ g < w.heap.size ∧ w.cell? ⟨g, off + k, none⟩ = some (.slice ss[k].1 ss[k].2.2.length ss[k].2.1) := by
  obtain ⟨g, off, hA, hg, hc⟩ := h (by intro he; simp [sls] at he; rw [he] at hk; simp at hk)
  exact ⟨g, off, hA, hg, hc k _ (by simp [sls, hk])⟩
theorem flat_take (ss : List (Option Addr × Nat × List Int)) (k : Nat) (hk : k < ss.length) : flat (ss.take (k + 1)) = flat (ss.take k) ++ ss[k].2.2 := by
  rw [show ss.take (k + 1) = ss.take k ++ [ss[k]] from by rw [List.take_add_one, List.getElem?_eq_getElem hk]; rfl]
  unfold flat
  rw [List.flatMap_append, List.flatMap_cons, List.flatMap_nil, List.append_nil]
theorem flat_take_le (ss : List (Option Addr × Nat × List Int)) (k : Nat) : (flat (ss.take k)).length ≤ (flat ss).length := by
  have : flat ss = flat (ss.take k) ++ flat (ss.drop k) := by
    rw [flat, flat, flat, ← List.flatMap_append, List.take_append_drop]
  rw [this, List.length_append]; omega

set_option maxHeartbeats 1600000 in
set_option maxRecDepth 100000 in
theorem sl_concat (A : Option Addr) (ss : List (Option Addr × Nat × List Int)) (cap : Nat) (w : World) (hr : Rd w A (sls ss)) (hs : ∀ s ∈ ss, Rd w s.1 (u8s s.2.2))
    (hlen : ss.length ≤ 1000) (hz : (flat ss).length ≤ 70368744177664) :
    Calls Tryz.prog 114 #[.slice A ss.length cap] w fun e w' =>
      ∃ v, e = .returned v ∧ w'.ownsRow w.heap.size 5 1 v (flat ss).length (u8s (flat ss)) ∧ Touch NoS w w' := by
  have HR := Lib.hid hr
  have HS := Lib.hid hs
  have HZ := Lib.hid hz
  clear hr hs hz
  go_enter Tryz.func114, Tryz.ntmps114
  go_wp2_with fail
  go_loop [3, 11] (fun n i => ∃ k : Nat, k ≤ ss.length ∧ i = .int .i64 k ∧ n = .int .i64 (flat (ss.take k)).length) (fun _ i => ss.length - (intOf i).toNat)
  case atStart => exact ⟨0, Nat.zero_le _, rfl, rfl⟩
  case round =>
    obtain ⟨k, hk, rfl, rfl⟩ := hrel
    by_cases hlt : k < ss.length
    · obtain ⟨gA, off, rfl, hgA, ca⟩ := sls_at HR.out k hlt
      have hft := flat_take ss k hlt
      have h1 := flat_take_le ss k
      have h2 := flat_take_le ss (k + 1)
      rw [hft, List.length_append] at h2
      have HFT : Hid ((flat (ss.take (k + 1))).length = (flat (ss.take k)).length + ss[k].2.2.length) := by
        show _ = _
        rw [hft, List.length_append]
      obtain ⟨s, hs⟩ : ∃ s, s = ss[k] := ⟨_, rfl⟩
      rw [← hs] at ca h2 HFT
      obtain ⟨sa, sc, sl⟩ := s
      have hz := HZ.out
      clear hft hs
      simp only at ca h2 HFT
      obtain ⟨N, hN⟩ : ∃ N, N = (flat (ss.take k)).length := ⟨_, rfl⟩
      obtain ⟨M, hM⟩ : ∃ M, M = sl.length := ⟨_, rfl⟩
      rw [← hN] at h1 h2 HFT ⊢
      rw [← hM] at h2 HFT ca
      have h3 : N + M ≤ 70368744177664 := by omega
      clear hN hM h1 h2 hz
      go_wp2
      go_round
      case rel => exact ⟨k + 1, by omega, by go_num, by rw [HFT.out]; go_num⟩
      case measure => simp [intOf]; omega
    · have hkl : k = ss.length := by omega
      subst hkl
      rw [List.take_length]
      have hz := HZ.out
      obtain ⟨N, hN⟩ : ∃ N, N = (flat ss).length := ⟨_, rfl⟩
      rw [← hN] at hz ⊢
      have HN := Lib.hid hN
      clear hN hlt hk
      go_wp2_with fail
      refine (sl_grow N (by omega) _).mono ?_
      rintro e w1 ⟨v, rfl, ho, ht⟩
      have HO := Lib.hid ho
      have HT := Lib.hid ht
      clear ho ht
      go_wp2_with fail
      go_loopw [6, 27] (fun v i wr => ∃ k : Nat, k ≤ ss.length ∧ i = .int .i64 k ∧ wr.ownsRow w.heap.size 5 1 v (flat (ss.take k)).length (u8s (flat (ss.take k))) ∧ Touch NoS w wr) (fun _ i _ => ss.length - (intOf i).toNat)
      case atStart => exact ⟨0, by omega, rfl, HO.out, HT.out⟩
      case round =>
        obtain ⟨k, hk, rfl, ho, ht⟩ := hrel
        have HO2 := Lib.hid ho
        have HT2 := Lib.hid ht
        clear ho ht HO HT
        by_cases hlt : k < ss.length
        · obtain ⟨gA, off, rfl, hgA, ca⟩ := sls_at (HR.out.touch_no HT2.out) k hlt
          have hrow := (HS.out ss[k] (List.getElem_mem hlt)).touch_no HT2.out
          have hft := flat_take ss k hlt
          have h2 := flat_take_le ss (k + 1)
          rw [hft, List.length_append] at h2
          have HFT : Hid (flat (ss.take (k + 1)) = flat (ss.take k) ++ ss[k].2.2) := hft
          obtain ⟨s, hs⟩ : ∃ s, s = ss[k] := ⟨_, rfl⟩
          rw [← hs] at ca h2 HFT hrow
          obtain ⟨sa, sc, sl⟩ := s
          have hn := HN.out
          have hz' := HZ.out
          simp only at ca h2 HFT hrow
          obtain ⟨p, hp⟩ : ∃ p, p = flat (ss.take k) := ⟨_, rfl⟩
          rw [← hp] at h2 HFT HO2
          have h3 : p.length + sl.length ≤ 70368744177664 := by omega
          have HROW := Lib.hid hrow
          clear hft hs hn hz' hp h2 hrow
          obtain ⟨i, hi, hz0, hz1, hz2⟩ := info_u8
          go_wp2_with (at_builtin; refine wpList_app_row _ rfl (.tmp 31) (.tmp 32) 43 rfl w.heap.size 5 i _ 1 1 Tryz.underlying43 hi hz0 hz1 hz2 rfl (by decide) _ p.length (u8s p) rfl HO2.out sa sl.length sc (u8s sl) rfl (by simp [u8s]) HROW.out (u8s_one _) (by unfold maxLen; omega) (by omega) (by have := HT2.out.size; omega) ?_)
          intro v' w' ho hgr _
          have HO := Lib.hid ho
          have HT3 := Lib.hid (HT2.out.grown hgr (fun q hq hl => absurd (own_base HO2.out hq) (by omega)))
          clear ho hgr hi hz0 hz1 hz2
          go_wp2_with fail
          go_roundw
          · refine ⟨k + 1, by omega, by go_num, ?_, HT3.out⟩
            rw [HFT.out, List.length_append, u8s_append]
            exact HO.out
          · simp [intOf]; omega
        · have hkl : k = ss.length := by omega
          subst hkl
          rw [List.take_length] at HO2
          have HNN := HN
          go_wp2_with fail
          go_ret
          exact ⟨_, rfl, by rw [HNN.out]; exact HO2.out, HT2.out⟩
theorem sl_concat_ (A : Option Addr) (ss : List (Option Addr × Nat × List Int)) (n cap : Nat) (w : World) (hn : ss.length = n) (hr : Rd w A (sls ss)) (hs : ∀ s ∈ ss, Rd w s.1 (u8s s.2.2))
    (hlen : ss.length ≤ 1000) (hz : (flat ss).length ≤ 70368744177664) :
    Calls Tryz.prog 114 #[.slice A n cap] w fun e w' =>
      ∃ v, e = .returned v ∧ w'.ownsRow w.heap.size 5 1 v (flat ss).length (u8s (flat ss)) ∧ Touch NoS w w' := by
  subst hn
  exact sl_concat A ss cap w hr hs hlen hz
theorem rd_sls (w : World) (t : TypeId) (l : List Value) (ss : List (Option Addr × Nat × List Int)) (h : sls ss = l) (g : Nat) (hg : g = w.heap.size) : Rd (w.alloc (.cells l.toArray t)) (some ⟨g, 0, none⟩) (sls ss) := by
  rw [h, hg]
  exact Rd.new w l t (0, 0)
/-- Four rows put together, of which the first is one byte. -/
theorem sl_concat4 (w : World) (x : Int) (A B C : Option Addr) (a b c : List Int) (na nb nc ca cb cc : Nat) (ha : a.length = na) (hb : b.length = nb) (hc : c.length = nc)
    (ra : Rd w A (u8s a)) (rb : Rd w B (u8s b)) (rc : Rd w C (u8s c)) (hz : a.length + b.length + c.length ≤ 1000000) (t1 t2 : TypeId) (g g1 : Nat) (hg : g = w.heap.size) (hg1 : g1 = w.heap.size + 1) :
    Calls Tryz.prog 114 #[.slice (some ⟨g1, 0, none⟩) 4 4]
      ((w.alloc (.cells #[.int .u8 x] t1)).alloc (.cells #[.slice (some ⟨g, 0, none⟩) 1 1, .slice A na ca, .slice B nb cb, .slice C nc cc] t2)) fun e w' =>
      ∃ v, e = .returned v ∧ w'.ownsRow w.heap.size 5 1 v (x :: (a ++ (b ++ c))).length (u8s (x :: (a ++ (b ++ c)))) ∧ Touch NoS w w' := by
  subst ha hb hc hg hg1
  have ht : Touch NoS w (w.alloc (.cells #[.int .u8 x] t1)) := (Touch.refl _ _).alloc _
  have ht2 : Touch NoS w ((w.alloc (.cells #[.int .u8 x] t1)).alloc (.cells #[.slice (some ⟨w.heap.size, 0, none⟩) 1 1, .slice A a.length ca, .slice B b.length cb, .slice C c.length cc] t2)) := ht.alloc _
  have hx : Rd (w.alloc (.cells #[.int .u8 x] t1)) (some ⟨w.heap.size, 0, none⟩) (u8s [x]) := Rd.new w [.int .u8 x] t1 (0, 0)
  have hx2 := hx.touch_no (((Touch.refl _ _).alloc (.cells #[.slice (some ⟨w.heap.size, 0, none⟩) 1 1, .slice A a.length ca, .slice B b.length cb, .slice C c.length cc] t2)))
  have hfl : flat [(some ⟨w.heap.size, 0, none⟩, 1, [x]), (A, ca, a), (B, cb, b), (C, cc, c)] = x :: (a ++ (b ++ c)) := by simp [flat]
  have hr := rd_sls (w.alloc (.cells #[.int .u8 x] t1)) t2 _ [(some ⟨w.heap.size, 0, none⟩, 1, [x]), (A, ca, a), (B, cb, b), (C, cc, c)] rfl (w.heap.size + 1) (by simp)
  refine (sl_concat_ (some ⟨w.heap.size + 1, 0, none⟩) [(some ⟨w.heap.size, 0, none⟩, 1, [x]), (A, ca, a), (B, cb, b), (C, cc, c)] 4 4 _ rfl hr ?_ (by simp) ?_).mono ?_
  · intro s hs
    simp only [List.mem_cons, List.not_mem_nil, or_false] at hs
    rcases hs with rfl | rfl | rfl | rfl
    · exact hx2
    · exact ra.touch_no ht2
    · exact rb.touch_no ht2
    · exact rc.touch_no ht2
  · rw [hfl]; simp; omega
  · rintro e w' ⟨v, rfl, ho, ht3⟩
    rw [hfl] at ho
    exact ⟨v, rfl, own_lower ho (by simp; omega), ht2.trans ht3⟩
end Go.Proofs.YtlnabpoohnphiaaGreat
/- frame: Size, Put. -/
namespace Go.Proofs.YtlnabpoohnphiaaGreat
open Go.RowKit
set_option linter.unusedSimpArgs false
set_option linter.unusedVariables false

theorem conv_str (w : World) (A : Option Addr) (l : List Int) (n c : Nat) (hn : l.length = n) (hr : Rd w A (u8s l)) :
    (convert 43 9 (.slice A n c)).run Tryz.prog w = .ok (.string (Go.strOfNums l)) w := by
  by_cases h0 : l = []
  · subst h0
    subst hn
    have : ∀ (s : ByteArray), s = ⟨#[]⟩ → (convert 43 9 (.slice A 0 c)).run Tryz.prog w = .ok (.string s) w := by
      rintro s rfl
      cases A with
      | none => kernel_rfl
      | some a => kernel_rfl
    exact this _ rfl
  · obtain ⟨g, off, rfl, hg, hc⟩ := hr (by intro h; simp [u8s] at h; exact h0 h)
    exact Go.run_convert_bytes_arg (P := Tryz.prog) _ 43 5 Tryz.underlying43 Tryz.underlying5 g off n c l hn (fun i hi => by
      apply hc
      rw [u8s, List.getElem?_map, List.getElem?_eq_getElem (by omega), List.getD_eq_getElem?_getD, List.getElem?_eq_getElem (by omega)]
      rfl) 9 Tryz.underlying9
theorem conv_ex (w : World) (d : ByteArray) (hd : d.size ≤ maxLen) : ∃ w' cap, (convert 9 43 (.string d)).run Tryz.prog w = .ok (.slice (some ⟨w.heap.size, 0, none⟩) d.size cap) w' ∧
    Touch NoS w w' ∧ Rd w' (some ⟨w.heap.size, 0, none⟩) (u8s (sb d)) ∧ d.size ≤ cap ∧ cap ≤ maxLen ∧ w.heap.size < w'.heap.size :=
  ⟨_, _, Lib.run_convert_string_bytes (P := Tryz.prog) w 9 43 5 d Tryz.underlying9 Tryz.underlying43 Tryz.underlying5,
    conv_touch _ _ _, conv_rd _ _ _, grownCap_ge _ _ _ _, grownCap_le_maxLen _ _ _ _ hd, by rw [Lib.bytesWorld_size]; omega⟩
theorem or128 (x : Int) (h0 : 0 ≤ x) (h1 : x < 128) : bits .or .u8 x 128 = x + 128 := by
  have h : ∀ n : Fin 128, bits .or .u8 (n.val : Int) 128 = (n.val : Int) + 128 := by decide +kernel
  have := h ⟨x.toNat, by omega⟩
  simp only [show ((x.toNat : Nat) : Int) = x from by omega] at this
  exact this

/-- How many bytes a frame has. -/
def size9 (f : Fr) : Nat := 2 + f.data.size + (if 65536 ≤ f.data.size then 8 else if 125 < f.data.size then 2 else 0) + (if f.masked = true then 4 else 0)
def first9 (f : Fr) : Int := f.op + (if f.fin = true then 128 else 0)
def long9 (f : Fr) : List Int := if f.masked = true then (lenB f.data.size).set 0 ((lenB f.data.size).getD 0 0 + 128) else lenB f.data.size
/-- A frame's bytes. -/
def fput (f : Fr) : List Int := first9 f :: (long9 f ++ ((if f.masked = true then f.key else []) ++ (if f.masked = true then turn f.key 0 (sb f.data) else sb f.data)))
theorem lenB_head (n : Nat) : ∃ x t, lenB n = x :: t ∧ 0 ≤ x ∧ x < 128 := by
  unfold lenB
  split
  · exact ⟨_, _, rfl, by omega, by omega⟩
  split
  · exact ⟨_, _, rfl, by omega, by omega⟩
  · exact ⟨_, _, rfl, by omega, by omega⟩
theorem fput_length (f : Fr) : (fput f).length = size9 f := by
  obtain ⟨fin, op, masked, k0, k1, k2, k3, d⟩ := f
  have hl := lenB_length d.size
  have key : ∀ (b : Bool) (n : Nat), n = (if d.size < 126 then 1 else if d.size < 65536 then 3 else 9) → 1 + n + d.size = 2 + d.size + (if 65536 ≤ d.size then 8 else if 125 < d.size then 2 else 0) := by
    intro b n hn
    by_cases h1 : d.size < 126
    · rw [if_pos h1] at hn; rw [if_neg (by omega), if_neg (by omega)]; omega
    · by_cases h2 : d.size < 65536
      · rw [if_neg h1, if_pos h2] at hn; rw [if_neg (by omega), if_pos (by omega)]; omega
      · rw [if_neg h1, if_neg h2] at hn; rw [if_pos (by omega)]; omega
  have k := key masked _ hl
  cases masked
  · simp only [fput, size9, long9, Fr.key, List.length_cons, List.length_append, Bool.false_eq_true, if_false, List.length_nil, sb_length]
    omega
  · simp only [fput, size9, long9, Fr.key, List.length_cons, List.length_append, if_true, List.length_nil, sb_length, turn_length, List.length_set]
    omega
theorem fput_in (f : Fr) (hf : f.good) (ho : 0 ≤ f.op ∧ f.op ≤ 10) : bytesIn (fput f) := by
  obtain ⟨fin, op, masked, k0, k1, k2, k3, d⟩ := f
  obtain ⟨_, hk, _⟩ := hf
  simp only at ho
  have hl := lenB_in d.size
  obtain ⟨y, t, hy, hy0, hy1⟩ := lenB_head d.size
  intro x hx
  simp only [fput, List.mem_cons, List.mem_append] at hx
  rcases hx with rfl | hx | hx | hx
  · unfold first9; simp only; split <;> omega
  · unfold long9 at hx
    simp only at hx
    split at hx
    · rw [hy] at hx hl
      simp only [List.getD_cons_zero, List.set_cons_zero, List.mem_cons] at hx
      rcases hx with rfl | hx
      · omega
      · exact hl x (by simp [hx])
    · exact hl x hx
  · split at hx
    · exact hk x hx
    · simp at hx
  · split at hx
    · exact turn_in hk _ _ (sb_in d) x hx
    · exact sb_in d x hx
end Go.Proofs.YtlnabpoohnphiaaGreat
