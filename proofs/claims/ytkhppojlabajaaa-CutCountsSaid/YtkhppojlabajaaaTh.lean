/- ref10: Same, Few, Text. -/
import Derived.Test.YtkhppojlabajaaaTc
namespace Go.Proofs.Ytkhppojlabajaaa
open Go.RowKit
set_option linter.unusedSimpArgs false
set_option linter.unusedVariables false

instance : DecidableEq Fr := fun f g => decidable_of_iff (f.same g = true) (Fr.same_iff f g)
set_option maxHeartbeats 3200000 in
set_option maxRecDepth 100000 in
theorem r10_same (A B : Option Addr) (l m : List Fr) (n n' c c' : Nat) (hn : l.length = n) (hn' : m.length = n') (w : World) (ha : Rd w A (frs l)) (hb : Rd w B (frs m)) (hl : n ≤ 1000000) (hl' : n' ≤ 1000000) :
    Calls Try.prog 20 #[.slice A n c, .slice B n' c'] w fun e w' => e = .returned (.bool (decide (l = m))) ∧ Touch NoS w w' := by
  by_cases hnn : n = n'
  · subst hnn
    have HA := Lib.hid ha
    have HB := Lib.hid hb
    have HN := Lib.hid hn
    have HN' := Lib.hid hn'
    obtain ⟨R, hR⟩ : ∃ R, R = decide (l = m) := ⟨_, rfl⟩
    have HR := Lib.hid hR
    rw [← hR]
    clear ha hb hn hn' hR
    go_enter Try.func20, Try.ntmps20
    go_wp2_with fail
    go_loopw [5] (fun i wr => ∃ k : Nat, k ≤ n ∧ i = .int .i64 k ∧ Hid (l.take k = m.take k) ∧ Touch NoS w wr) (fun i _ => n - (intOf i).toNat)
    case atStart => exact ⟨0, by omega, rfl, rfl, Touch.refl _ _⟩
    case round =>
      obtain ⟨k, hk, rfl, he, ht⟩ := hrel
      have HE := Lib.hid he
      have HT := Lib.hid ht
      by_cases hlt : k < n
      · have hk1 : k < l.length := by rw [HN.out]; exact hlt
        have hk2 : k < m.length := by rw [HN'.out]; exact hlt
        obtain ⟨g, off, rfl, hg, a0, a1, a2, a3, a4, a5, a6, a7⟩ := fr_cells (HA.out.touch_no ht) k hk1
        obtain ⟨g', off', rfl, hg', b0, b1, b2, b3, b4, b5, b6, b7⟩ := fr_cells (HB.out.touch_no ht) k hk2
        have hts := take_succ_eq l m k hk1 hk2 he.out
        obtain ⟨f, hf⟩ : ∃ f, f = l[k] := ⟨_, rfl⟩
        obtain ⟨f', hf'⟩ : ∃ f, f = m[k] := ⟨_, rfl⟩
        rw [← hf] at a0 a1 a2 a3 a4 a5 a6 a7 hts
        rw [← hf'] at b0 b1 b2 b3 b4 b5 b6 b7 hts
        obtain ⟨b, hbb⟩ : ∃ b, b = f.same f' := ⟨_, rfl⟩
        have hneq := neq_fr_all f f' b hbb.symm
        have HTS : Hid (l.take (k + 1) = m.take (k + 1) ↔ b = true) := by
          show l.take (k + 1) = m.take (k + 1) ↔ b = true
          rw [hts, hbb, Fr.same_iff]
        obtain ⟨fin, op, masked, k0, k1, k2, k3, d⟩ := f
        obtain ⟨fin', op', masked', k0', k1', k2', k3', d'⟩ := f'
        clear he ht hk1 hk2 hts hf hf' hbb
        go_wp2_with fail
        go_quiet (fail)
        cases b with
        | true =>
          go_wp2_with fail
          go_roundw
          · exact ⟨k + 1, by omega, by go_num, HTS.out.2 rfl, HT.out.drewN _⟩
          · simp [intOf]; omega
        | false =>
          go_wp2
          go_ret
          refine ⟨?_, HT.out.drewN _⟩
          rw [HR.out, decide_eq_false (fun h => by have := HTS.out.1 (by rw [h]); cases this)]
          rfl
      · have hkn : k = n := by omega
        subst hkn
        clear he ht
        go_wp2
        go_ret
        refine ⟨?_, HT.out⟩
        have h := HE.out.out
        rw [List.take_of_length_le (by rw [HN.out]; exact Nat.le_refl _), List.take_of_length_le (by rw [HN'.out]; exact Nat.le_refl _)] at h
        rw [HR.out, decide_eq_true h]
        rfl
  · have hd : decide (l = m) = false := decide_eq_false (fun h => hnn (by rw [← hn, ← hn', h]))
    have hq : ((n : Int) != n') = true := by rw [bne_iff_ne]; omega
    have hq2 : ¬ (n : Int) = n' := by omega
    rw [hd]
    clear ha hb hn hn' hd
    go_enter Try.func20, Try.ntmps20
    go_wp2
    go_ret
    exact ⟨rfl, Touch.refl _ _⟩

end Go.Proofs.Ytkhppojlabajaaa
