/- Same, of two lists of events that are the same; an event appended to a list of the call's own. -/
import Derived.Test.YtgbldgeknmkmmaaQo
namespace Go.Proofs.Ytgbldgeknmkmmaa
open Go.RowKit
set_option linter.unusedSimpArgs false
set_option linter.unusedVariables false

set_option maxHeartbeats 800000 in
theorem same_true (A B : Option Addr) (l : List Ev) (c d : Nat) (w : World) (ha : Rd w A (evCells l)) (hb : Rd w B (evCells l)) (hl : l.length ≤ 4611686018427387904) :
    Calls Try.prog 27 #[.slice A l.length c, .slice B l.length d] w fun e w' => e = .returned (.bool true) ∧ Touch NoS w w' := by
  have HA := Lib.hid ha
  have HB := Lib.hid hb
  clear ha hb
  go_enter Try.func27, Try.ntmps27
  go_wp2_with fail
  go_loopw [5] (fun i wr => ∃ k : Nat, k ≤ l.length ∧ i = .int .i64 k ∧ Touch NoS w wr) (fun i _ => l.length - (intOf i).toNat)
  case atStart => exact ⟨0, by omega, rfl, Touch.refl _ _⟩
  case round =>
    obtain ⟨k, hk, rfl, ht⟩ := hrel
    have HT := Lib.hid ht
    clear ht
    by_cases hlt : k < l.length
    · obtain ⟨e0, he0⟩ : ∃ e0, e0 = l[k] := ⟨_, rfl⟩
      obtain ⟨ga, offa, rfl, hga, a0, a1, a2⟩ := ev_cells (HA.out.touch_no HT.out) k hlt
      obtain ⟨gb, offb, rfl, hgb, b0, b1, b2⟩ := ev_cells (HB.out.touch_no HT.out) k hlt
      rw [← he0] at a0 a1 a2 b0 b1 b2
      clear he0
      go_wp2_with fail
      go_quiet (fail)
      go_wp2_with fail
      go_roundw
      case rel => exact ⟨k + 1, by omega, by go_num, HT.out.drewN _⟩
      case measure => simp [intOf]; omega
    · go_wp2
      go_ret
      exact ⟨rfl, HT.out⟩
end Go.Proofs.Ytgbldgeknmkmmaa
