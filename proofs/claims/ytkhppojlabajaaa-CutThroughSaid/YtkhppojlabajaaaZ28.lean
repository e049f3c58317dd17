/- ref12: Few. | ref12: Few; fresh copies of rows of frames. -/
import Derived.Test.YtkhppojlabajaaaZ08
import Derived.Test.YtkhppojlabajaaaZ27
import Derived.Deep.LoopGhost
/- ref12: Few. -/
namespace Go.Proofs.Ytkhppojlabajaaa
open Go.RowKit
set_option linter.unusedSimpArgs false
set_option linter.unusedVariables false

def few12 (l : List Fr) : Bool := decide ((∀ f ∈ l, f.data.size ≤ 300) ∧ l.length ≤ 30)
set_option maxHeartbeats 3200000 in
set_option maxRecDepth 100000 in
theorem r12_few (A : Option Addr) (l : List Fr) (n c : Nat) (hn : l.length = n) (w : World) (ha : Rd w A (frs l)) (hl : n ≤ maxLen) (hls : ∀ f ∈ l, f.good) :
    Calls Try.prog 22 #[.slice A n c] w fun e w' => e = .returned (.bool (few12 l)) ∧ w = w' := by
  have HA := Lib.hid ha
  have HN := Lib.hid hn
  have HLS := Lib.hid hls
  obtain ⟨R, hR⟩ : ∃ R, R = few12 l := ⟨_, rfl⟩
  have HR := Lib.hid hR
  rw [← hR]
  unfold maxLen at hl
  clear ha hn hR hls
  go_enter Try.func22, Try.ntmps22
  go_wp2_with fail
  go_loopw [3] (fun i wr => ∃ k : Nat, k ≤ n ∧ i = .int .i64 k ∧ Hid (∀ j (h : j < k) (h2 : j < l.length), l[j].data.size ≤ 300) ∧ wr = w) (fun i _ => n - (intOf i).toNat)
  case atStart => exact ⟨0, by omega, rfl, fun j h _ => by omega, rfl⟩
  case round =>
    obtain ⟨k, hk, rfl, he, rfl⟩ := hrel
    have HE := Lib.hid he
    clear he
    by_cases hlt : k < n
    · have hk1 : k < l.length := by rw [HN.out]; exact hlt
      obtain ⟨g, off, rfl, hg, _, _, _, _, _, _, _, c0⟩ := fr_cells HA.out k hk1
      have hsz := (HLS.out l[k] (List.getElem_mem hk1)).2.2
      have hmem := List.getElem_mem hk1
      obtain ⟨s, hs⟩ : ∃ s, s = l[k] := ⟨_, rfl⟩
      rw [← hs] at c0 hsz hmem
      have HS := Lib.hid hs
      have HMEM := Lib.hid hmem
      unfold maxLen at hsz
      clear hs hmem
      by_cases hbig : 300 < s.data.size
      · go_wp2
        go_ret
        refine ⟨?_, rfl⟩
        have hq : few12 l = false := by unfold few12; exact decide_eq_false (fun h => by have := h.1 s HMEM.out; omega)
        rw [HR.out, hq]
        rfl
      · have hsm : s.data.size ≤ 300 := by omega
        go_wp2
        go_roundw
        · refine ⟨k + 1, by omega, by go_num, ?_, by first | trivial | rfl⟩
          intro j h h2
          by_cases hjk : j = k
          · subst hjk
            rw [← HS.out]
            exact hsm
          · exact HE.out.out j (by omega) h2
        · simp [intOf]; omega
    · have hkn : k = n := by omega
      subst hkn
      by_cases h40 : k ≤ 30
      · go_wp2
        go_ret
        refine ⟨?_, rfl⟩
        have hq : few12 l = true := by
          unfold few12
          refine decide_eq_true ⟨fun s hs => ?_, by rw [HN.out]; exact h40⟩
          obtain ⟨j, hj, rfl⟩ := List.getElem_of_mem hs
          exact HE.out.out j (by rw [← HN.out]; exact hj) hj
        have hd : decide ((k : Int) ≤ 30) = true := decide_eq_true (by omega)
        rw [HR.out, hq, ← hd]
        rfl
      · go_wp2
        go_ret
        refine ⟨?_, rfl⟩
        have hq : few12 l = false := by unfold few12; exact decide_eq_false (fun h => h40 (by rw [← HN.out]; exact h.2))
        have hd : decide ((k : Int) ≤ 30) = false := decide_eq_false (by omega)
        rw [HR.out, hq, ← hd]
        rfl
end Go.Proofs.Ytkhppojlabajaaa
/- ref12: Few; fresh copies of rows of frames. -/
namespace Go.Proofs.Ytkhppojlabajaaa
open Go.RowKit
set_option linter.unusedSimpArgs false
set_option linter.unusedVariables false

theorem own_empty {w : World} {base : Nat} (h : base ≤ w.heap.size) (e : TypeId) (size : Nat) : (w.alloc (.cells #[] e)).ownsRow base e size (.slice (some ⟨w.heap.size, 0, none⟩) 0 0) 0 [] :=
  ⟨by simp, .inr ⟨w.heap.size, 0, #[], rfl, h, Blk.new _ _ _, Nat.le_refl _, by simp [maxLen], by simp, by simp⟩⟩
theorem frs_take (l : List Fr) : ∀ k, frs (l.take k) = (frs l).take (k * 8) := by
  induction l with
  | nil => intro k; simp [frs]
  | cons f l ih =>
    intro k
    rcases k with _ | k
    · simp [frs]
    · have e : frs (f :: l) = f.cl ++ frs l := by simp [frs]
      have e2 : frs (f :: l.take k) = f.cl ++ frs (l.take k) := by simp [frs]
      rw [List.take_succ_cons, e2, e, ih k, show (k + 1) * 8 = f.cl.length + k * 8 from by rw [show f.cl.length = 8 from rfl]; omega, List.take_length_add_append]
theorem frs_drop (l : List Fr) (k : Nat) : frs (l.drop k) = (frs l).drop (k * 8) := by
  have h : frs l = frs (l.take k) ++ frs (l.drop k) := by rw [← frs_append, List.take_append_drop]
  by_cases hk : k ≤ l.length
  · have hl : (frs (l.take k)).length = k * 8 := by rw [frs_length, List.length_take, Nat.min_eq_left hk]
    rw [h, ← hl, List.drop_left']
    rfl
  · rw [List.drop_of_length_le (by omega), List.drop_of_length_le (by rw [frs_length]; omega)]
    rfl
end Go.Proofs.Ytkhppojlabajaaa
