/- ref10: Few. -/
import Derived.Test.YtpadlcllcmodaaaYTh
namespace Go.Proofs.Ytpadlcllcmodaaa
open Go.RowKit
set_option linter.unusedSimpArgs false
set_option linter.unusedVariables false

/-- Texts that aren't too many or long. -/
def few (l : List ByteArray) : Bool := decide ((∀ s ∈ l, s.size ≤ 300) ∧ l.length ≤ 40)
set_option maxHeartbeats 3200000 in
set_option maxRecDepth 100000 in
theorem r10_few (A : Option Addr) (l : List ByteArray) (n c : Nat) (hn : l.length = n) (w : World) (ha : Rd w A (l.flatMap fun x => [.string x])) (hl : n ≤ maxLen) (hls : ∀ s ∈ l, s.size ≤ maxLen) :
    Calls Try.prog 11 #[.slice A n c] w fun e w' => e = .returned (.bool (few l)) ∧ w = w' := by
  have HA := Lib.hid ha
  have HN := Lib.hid hn
  have HLS := Lib.hid hls
  obtain ⟨R, hR⟩ : ∃ R, R = few l := ⟨_, rfl⟩
  have HR := Lib.hid hR
  rw [← hR]
  unfold maxLen at hl
  clear ha hn hR hls
  go_enter Try.func11, Try.ntmps11
  go_wp2_with fail
  go_loopw [3] (fun i wr => ∃ k : Nat, k ≤ n ∧ i = .int .i64 k ∧ Hid (∀ j (h : j < k) (h2 : j < l.length), l[j].size ≤ 300) ∧ wr = w) (fun i _ => n - (intOf i).toNat)
  case atStart => exact ⟨0, by omega, rfl, fun j h _ => by omega, rfl⟩
  case round =>
    obtain ⟨k, hk, rfl, he, rfl⟩ := hrel
    have HE := Lib.hid he
    clear he
    by_cases hlt : k < n
    · have hk1 : k < l.length := by rw [HN.out]; exact hlt
      obtain ⟨g, off, rfl, hg, c0⟩ := str_at HA.out k hk1
      have hsz := HLS.out l[k] (List.getElem_mem hk1)
      have hmem := List.getElem_mem hk1
      obtain ⟨s, hs⟩ : ∃ s, s = l[k] := ⟨_, rfl⟩
      rw [← hs] at c0 hsz hmem
      have HS := Lib.hid hs
      have HMEM := Lib.hid hmem
      unfold maxLen at hsz
      clear hs hmem
      by_cases hbig : 300 < s.size
      · go_wp2
        go_ret
        refine ⟨?_, rfl⟩
        have hq : few l = false := by unfold few; exact decide_eq_false (fun h => by have := h.1 s HMEM.out; omega)
        rw [HR.out, hq]
        rfl
      · have hsm : s.size ≤ 300 := by omega
        go_wp2
        go_roundw
        · refine ⟨k + 1, by omega, by go_num, ?_, by first | trivial | rfl⟩
          intro j h h2
          by_cases hjk : j = k
          · subst hjk
            rw [← HS.out]
            exact hsm
          · exact HE.out.out j (by omega) h2
        · simp [intOf]; omega
    · have hkn : k = n := by omega
      subst hkn
      by_cases h40 : k ≤ 40
      · go_wp2
        go_ret
        refine ⟨?_, rfl⟩
        have hq : few l = true := by
          unfold few
          refine decide_eq_true ⟨fun s hs => ?_, by rw [HN.out]; exact h40⟩
          obtain ⟨j, hj, rfl⟩ := List.getElem_of_mem hs
          exact HE.out.out j (by rw [← HN.out]; exact hj) hj
        have hd : decide ((k : Int) ≤ 40) = true := decide_eq_true (by omega)
        rw [HR.out, hq, ← hd]
        rfl
      · go_wp2
        go_ret
        refine ⟨?_, rfl⟩
        have hq : few l = false := by unfold few; exact decide_eq_false (fun h => h40 (by rw [← HN.out]; exact h.2))
        have hd : decide ((k : Int) ≤ 40) = false := decide_eq_false (by omega)
        rw [HR.out, hq, ← hd]
        rfl
end Go.Proofs.Ytpadlcllcmodaaa
