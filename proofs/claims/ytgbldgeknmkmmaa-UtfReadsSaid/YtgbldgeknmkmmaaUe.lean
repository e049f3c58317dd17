/- The laws UtfBegins, UtfJoins: the walks. -/
import Derived.Test.YtgbldgeknmkmmaaUd
namespace Go.Proofs.Ytgbldgeknmkmmaa
open Go.RowKit
set_option linter.unusedSimpArgs false
set_option linter.unusedVariables false

set_option maxHeartbeats 1600000 in
theorem begins_row (w : World) (s : ByteArray) (hs : s.size ≤ maxLen) :
    Calls Try.prog 11 #[.string s] w fun e w' => e = .returned (.bool true) ∧ Touch NoS w w' := by
  have kv := fun (W : World) (s : ByteArray) => Lib.run_convert_string_bytes (P := Try.prog) W 9 48 5 s Try.underlying9 Try.underlying48 Try.underlying5
  go_enter Try.func11, Try.ntmps11
  go_wp2_with fail
  refine (u_awake _).mono ?_
  rintro e w1 ⟨rfl, ht⟩
  have HT := Lib.hid ht
  clear ht
  unfold maxLen at hs
  by_cases h100 : 100 < s.size
  · go_wp2_with fail
    refine (u_awake _).mono ?_
    rintro e w2 ⟨rfl, ht⟩
    have HT2 := Lib.hid (HT.out.trans ht)
    clear ht
    go_wp2
    go_ret
    exact ⟨rfl, HT2.out⟩
  go_wp2_with fail
  refine (u_new _).mono ?_
  rintro e w2 ⟨g, rfl, hg, hu, ht⟩
  have HU := Lib.hid hu
  have hgw : w.heap.size ≤ g := by have := HT.out.size; omega
  have HT2 := Lib.hid (HT.out.trans ht)
  clear hu ht HT
  obtain ⟨N, hN⟩ : ∃ N, N = (ufeed Uc.new (sb s)).2 := ⟨_, rfl⟩
  have HN := Lib.hid hN
  have hlen : N ≤ s.size := by rw [hN]; have := (ufeed_ok (sb s) new_ok).2.2.2; rwa [sb_length] at this
  have HL : Hid ((sb s).length = s.size) := sb_length s
  clear hN
  go_wp2_with fail
  refine (u_feedc g Uc.new s _ _ rfl _ HU.out new_ok (by simp [Uc.new]; omega)).mono ?_
  rintro e w3 ⟨rfl, hu, ht⟩
  have HT3 := Lib.hid (HT2.out.at_new ht hgw)
  clear hu ht HU HT2
  rw [← HN.out]
  go_wp2_with fail
  go_loopw [5] (fun i wr => ∃ k : Nat, k ≤ s.size + 1 ∧ i = .int .i64 k ∧ Touch NoS w wr) (fun i _ => s.size + 1 - (intOf i).toNat)
  case atStart => exact ⟨0, by omega, rfl, HT3.out⟩
  case round =>
    obtain ⟨k, hk, rfl, ht⟩ := hrel
    have HTk := Lib.hid ht
    clear ht HT3
    by_cases hlt : k ≤ s.size
    · go_wp2_with fail
      refine (u_new _).mono ?_
      rintro e w4 ⟨g4, rfl, hg4, hu, ht⟩
      have HU := Lib.hid hu
      have hgw4 : w.heap.size ≤ g4 := by have := HTk.out.size; omega
      have HT4 := Lib.hid (HTk.out.trans ht)
      clear hu ht HTk
      have hE : sb (s.extract 0 k) = (sb s).take k := by rw [sb_extract]; simp
      have hmin : ((ufeed Uc.new (sb (s.extract 0 k))).2 : Int) = min (k : Int) N := by
        rw [hE, (ufeed_take (sb s) Uc.new k rfl).1, ← HN.out, HL.out]; omega
      have hbad : (!(ufeed Uc.new (sb (s.extract 0 k))).1.bad) = decide ((k : Int) ≤ N) := by
        have h2 := (ufeed_take (sb s) Uc.new k rfl).2
        rw [← hE, ← HN.out, HL.out] at h2
        cases hb : (ufeed Uc.new (sb (s.extract 0 k))).1.bad
        · rw [hb] at h2
          simp at h2 ⊢
          omega
        · rw [hb] at h2
          simp at h2 ⊢
          omega
      have hsz : (s.extract 0 k).size = k := by rw [ByteArray.size_extract]; omega
      have HS := Lib.hid hsz
      have HM := Lib.hid hmin
      have HB := Lib.hid hbad
      clear hE hmin hbad hsz
      go_wp2_with fail
      refine (u_feedc g4 Uc.new (s.extract 0 k) k _ HS.out _ HU.out new_ok (by simp [Uc.new]; omega)).mono ?_
      rintro e w5 ⟨rfl, hu, ht⟩
      have HU5 := Lib.hid hu
      have HT5 := Lib.hid (HT4.out.at_new ht hgw4)
      clear hu ht HU HT4
      rw [HM.out]
      by_cases hkn : (k : Int) ≤ N
      · have hm2 : min (k : Int) N = k := by omega
        rw [hm2]
        go_wp2_with fail
        refine (u_right g4 _ _ HU5.out).mono ?_
        rintro e w6 ⟨rfl, rfl⟩
        rw [HB.out]
        go_wp2_with fail
        go_roundw
        · exact ⟨k + 1, by omega, by go_num, HT5.out⟩
        · simp [intOf]; omega
      · have hm2 : min (k : Int) N = N := by omega
        rw [hm2]
        go_wp2_with fail
        refine (u_right g4 _ _ HU5.out).mono ?_
        rintro e w6 ⟨rfl, rfl⟩
        rw [HB.out]
        go_wp2_with fail
        go_roundw
        · exact ⟨k + 1, by omega, by go_num, HT5.out⟩
        · simp [intOf]; omega
    · go_wp2
      go_ret
      exact ⟨rfl, HTk.out⟩
end Go.Proofs.Ytgbldgeknmkmmaa
