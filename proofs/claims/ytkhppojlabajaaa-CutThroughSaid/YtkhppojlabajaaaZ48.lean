/- ref12: Same. -/
import Derived.Test.YtkhppojlabajaaaZ41
import Derived.Deep.LoopGhost
/- ref12: Same. -/
namespace Go.Proofs.Ytkhppojlabajaaa
open Go.RowKit
set_option linter.unusedSimpArgs false
set_option linter.unusedVariables false

theorem evCells_length (l : List Ev) : (evCells l).length = l.length * 3 := by
  induction l with
  | nil => rfl
  | cons e l ih => simp [evCells, Ev.cs] at ih ⊢; omega
theorem evCells_append (a b : List Ev) : evCells (a ++ b) = evCells a ++ evCells b := by simp [evCells]
theorem evCells_single (e : Ev) : evCells [e] = e.cs := by simp [evCells]
theorem evCells_one (l : List Ev) : ∀ u ∈ evCells l, u.oneCell' = true := by
  intro u hu
  simp only [evCells, List.mem_flatMap] at hu
  obtain ⟨e, _, hu⟩ := hu
  simp [Ev.cs] at hu
  rcases hu with rfl | rfl | rfl <;> rfl
theorem info_ev : (Try.prog.info? 57).map (fun i => (i.zero, i.size, i.bytes)) = some (some (.agg #[.int .i64 0, .int .i64 0, .string ⟨#[]⟩]), 3, 32) := by kernel_rfl
set_option maxHeartbeats 3200000 in
set_option maxRecDepth 100000 in
theorem r12_same (A B : Option Addr) (l m : List Ev) (n n' c c' : Nat) (hn : l.length = n) (hn' : m.length = n') (w : World) (ha : Rd w A (evCells l)) (hb : Rd w B (evCells m)) (hl : n ≤ 1000000) (hl' : n' ≤ 1000000) :
    Calls Try.prog 37 #[.slice A n c, .slice B n' c'] w fun e w' => e = .returned (.bool (decide (l = m))) ∧ Touch NoS w w' := by
  by_cases hnn : n = n'
  · subst hnn
    have HA := Lib.hid ha
    have HB := Lib.hid hb
    have HN := Lib.hid hn
    have HN' := Lib.hid hn'
    obtain ⟨R, hR⟩ : ∃ R, R = decide (l = m) := ⟨_, rfl⟩
    have HR := Lib.hid hR
    rw [← hR]
    clear ha hb hn hn' hR
    go_enter Try.func37, Try.ntmps37
    go_wp2_with fail
    go_loopw [5] (fun i wr => ∃ k : Nat, k ≤ n ∧ i = .int .i64 k ∧ Hid (l.take k = m.take k) ∧ Touch NoS w wr) (fun i _ => n - (intOf i).toNat)
    case atStart => exact ⟨0, by omega, rfl, rfl, Touch.refl _ _⟩
    case round =>
      obtain ⟨k, hk, rfl, he, ht⟩ := hrel
      have HE := Lib.hid he
      have HT := Lib.hid ht
      by_cases hlt : k < n
      · have hk1 : k < l.length := by rw [HN.out]; exact hlt
        have hk2 : k < m.length := by rw [HN'.out]; exact hlt
        obtain ⟨g, off, rfl, hg, a0, a1, a2⟩ := ev_cells (HA.out.touch_no ht) k hk1
        obtain ⟨g', off', rfl, hg', b0, b1, b2⟩ := ev_cells (HB.out.touch_no ht) k hk2
        have hts := take_succ_eq l m k hk1 hk2 he.out
        obtain ⟨f, hf⟩ : ∃ f, f = l[k] := ⟨_, rfl⟩
        obtain ⟨f', hf'⟩ : ∃ f, f = m[k] := ⟨_, rfl⟩
        rw [← hf] at a0 a1 a2 hts
        rw [← hf'] at b0 b1 b2 hts
        obtain ⟨b, hbb⟩ : ∃ b, b = f.same f' := ⟨_, rfl⟩
        have hneq := neq_ev_all f f' b hbb.symm
        have HTS : Hid (l.take (k + 1) = m.take (k + 1) ↔ b = true) := by
          show l.take (k + 1) = m.take (k + 1) ↔ b = true
          rw [hts, hbb, Ev.same_iff]
        obtain ⟨op, code, d⟩ := f
        obtain ⟨op', code', d'⟩ := f'
        clear he ht hk1 hk2 hts hf hf' hbb
        go_wp2_with fail
        go_quiet (fail)
        cases b with
        | true =>
          go_wp2_with fail
          go_roundw
          · exact ⟨k + 1, by omega, by go_num, HTS.out.2 rfl, HT.out.drewN _⟩
          · simp [intOf]; omega
        | false =>
          go_wp2
          go_ret
          refine ⟨?_, HT.out.drewN _⟩
          rw [HR.out, decide_eq_false (fun h => by have := HTS.out.1 (by rw [h]); cases this)]
          rfl
      · have hkn : k = n := by omega
        subst hkn
        clear he ht
        go_wp2
        go_ret
        refine ⟨?_, HT.out⟩
        have h := HE.out.out
        rw [List.take_of_length_le (by rw [HN.out]; exact Nat.le_refl _), List.take_of_length_le (by rw [HN'.out]; exact Nat.le_refl _)] at h
        rw [HR.out, decide_eq_true h]
        rfl
  · have hd : decide (l = m) = false := decide_eq_false (fun h => hnn (by rw [← hn, ← hn', h]))
    have hq : ((n : Int) != n') = true := by rw [bne_iff_ne]; omega
    have hq2 : ¬ (n : Int) = n' := by omega
    rw [hd]
    clear ha hb hn hn' hd
    go_enter Try.func37, Try.ntmps37
    go_wp2
    go_ret
    exact ⟨rfl, Touch.refl _ _⟩
end Go.Proofs.Ytkhppojlabajaaa
