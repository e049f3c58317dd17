/- The document's letters: Read. -/
import Derived.Test.YtfafpcmdgjmlhaaVe
import Derived.OwnWalk
namespace Go.Proofs.Ytfafpcmdgjmlhaa
open Go.RowKit
set_option linter.unusedSimpArgs false
set_option linter.unusedVariables false

theorem ufeed_split (l : List Int) (k : Nat) (hk : k ≤ l.length) (c : Uc) (h : ufeed Uc.new (l.take k) = (c, k)) (e : Nat) : (ufeed Uc.new (l.take (k + e))).1 = (ufeed c ((l.drop k).take e)).1 := by
  rw [List.take_add, (ufeed_append _ _ _).1, h]
/-- All behind the letters. -/
theorem read_end (l : List Int) (k : Nat) (c : Uc) (hk : k ≤ l.length) (h : ufeed Uc.new (l.take k) = (c, k)) (hc : c.ready) (hw : k < l.length → whole3 (l.drop k) = 0) (e : Nat) (he : e ≤ l.length - k) (ha : e = 0 ∨ (ufeed c ((l.drop k).take e)).1.amid)
    (hs : k + e < l.length → begins3 ((l.drop k).take (e + 1)) = false) (hb : bytesIn l) : (ufeed Uc.new l).2 = k + e ∧ (ufeed Uc.new l).1.whole = decide (k = l.length) ∧ (k = l.length → (ufeed Uc.new l).1.count = c.count) := by
  have hbad : ∀ i, ((ufeed Uc.new (l.take i)).1.bad = true ↔ (ufeed Uc.new l).2 < min i l.length) := fun i => (ufeed_take l Uc.new i rfl).2
  by_cases hkl : k = l.length
  · have ht : l.take k = l := by rw [hkl, List.take_length]
    rw [ht] at h
    rw [h]
    refine ⟨by omega, ?_, fun _ => rfl⟩
    rw [decide_eq_true hkl]
    unfold Uc.whole
    rw [hc.1, hc.2]
    rfl
  · have hlt : k < l.length := by omega
    have hge : k + e ≤ (ufeed Uc.new l).2 := by
      have h1 : (ufeed Uc.new (l.take (k + e))).1.bad = false := by
        rw [ufeed_split l k hk c h e]
        rcases ha with rfl | ha
        · exact hc.2
        · exact ha.1
      have h2 := mt (hbad (k + e)).2 (by rw [h1]; simp)
      omega
    refine ⟨?_, ?_, fun h => absurd h hkl⟩
    · by_cases hel : k + e < l.length
      · have := begins_feed c hc (l.drop k) (hb.drop k) (hw hlt) e (by rw [List.length_drop]; omega) ha
        rw [hs hel] at this
        have h1 : (ufeed Uc.new (l.take (k + (e + 1)))).1.bad = true := by
          rw [ufeed_split l k hk c h (e + 1)]
          rcases this with ⟨a, _⟩ | ⟨_, a⟩
          · cases a
          · exact a
        have := (hbad (k + (e + 1))).1 h1
        omega
      · have := (ufeed_ok l new_ok).2.2.2
        omega
    · rw [decide_eq_false hkl]
      unfold Uc.whole
      by_cases hel : k + e < l.length
      · have := begins_feed c hc (l.drop k) (hb.drop k) (hw hlt) e (by rw [List.length_drop]; omega) ha
        rw [hs hel] at this
        have h1 : (ufeed Uc.new (l.take (k + (e + 1)))).1.bad = true := by
          rw [ufeed_split l k hk c h (e + 1)]
          rcases this with ⟨a, _⟩ | ⟨_, a⟩
          · cases a
          · exact a
        have h2 := (hbad (k + (e + 1))).1 h1
        have h3 : (ufeed Uc.new l).1.bad = true := (ufeed_bad l Uc.new rfl).2 (by omega)
        rw [h3]
        rfl
      · have h1 := ufeed_split l k hk c h e
        rw [List.take_of_length_le (by omega)] at h1
        rw [h1]
        rcases ha with rfl | ha
        · omega
        · rw [ha.1, decide_eq_false ha.2]; rfl
theorem ufeed_step (l : List Int) (k n : Nat) (c d : Uc) (h : ufeed Uc.new (l.take k) = (c, k)) (h2 : ufeed c ((l.drop k).take n) = (d, n)) : ufeed Uc.new (l.take (k + n)) = (d, k + n) := by
  rw [List.take_add]
  obtain ⟨e1, e2⟩ := ufeed_append (l.take k) ((l.drop k).take n) Uc.new
  rw [h] at e1 e2
  rw [h2] at e1 e2
  exact Prod.ext e1 e2

set_option maxHeartbeats 3200000 in
theorem r3_read (s : ByteArray) (hs : s.size ≤ 1000) (w : World) : Calls Try.prog 71 #[.string s] w fun e w' => ∃ n : Int, e = .returned (.tuple #[.int .i64 (ufeed Uc.new (sb s)).2, .int .i64 n, .bool (ufeed Uc.new (sb s)).1.whole]) ∧ ((ufeed Uc.new (sb s)).1.whole = true → n = (ufeed Uc.new (sb s)).1.count) ∧ 0 ≤ n ∧ n ≤ 1000 ∧ Touch NoS w w' := by
  go_enter Try.func71, Try.ntmps71
  go_upto_block 0 with (fail)
  go_cut [5, 6] (fun a n wx => ∃ (k : Nat) (c : Uc), k ≤ s.size ∧ a = .int .i64 k ∧ n = .int .i64 c.count ∧ ufeed Uc.new ((sb s).take k) = (c, k) ∧ c.ready ∧ (k < s.size → whole3 ((sb s).drop k) = 0) ∧ Touch NoS w wx)
  case first =>
    go_wp2_with fail
    go_loopw [5, 6] (fun a n wr => ∃ (k : Nat) (c : Uc), k ≤ s.size ∧ a = .int .i64 k ∧ n = .int .i64 c.count ∧ ufeed Uc.new ((sb s).take k) = (c, k) ∧ c.ready ∧ Touch NoS w wr) (fun a _ _ => s.size - (intOf a).toNat)
    case atStart => exact ⟨0, Uc.new, by omega, rfl, rfl, rfl, ⟨rfl, rfl⟩, Touch.refl _ _⟩
    case round =>
      obtain ⟨k, c, hk, rfl, rfl, hu, hc, ht⟩ := hrel
      have HTk := Lib.hid ht
      have HU := Lib.hid hu
      have HC := Lib.hid hc
      clear ht hu hc
      by_cases hlt : k < s.size
      · have hz : (s.extract k s.size).size = s.size - k := by rw [ByteArray.size_extract]; omega
        have hsb : sb (s.extract k s.size) = (sb s).drop k := by rw [sb_extract, ← sb_length s, List.take_length]
        have HSB := Lib.hid hsb
        have HZ := Lib.hid hz
        have hlt' : (k : Int) < s.size := by omega
        clear hz hsb
        go_wp2_with fail
        refine (r3_whole (s.extract k s.size) (by rw [HZ.out]; omega) (by rw [HZ.out]; omega) _).mono ?_
        rintro e w2 ⟨rfl, ht⟩
        have HT2 := Lib.hid (HTk.out.trans ht)
        clear ht HTk
        rw [HSB.out]
        obtain ⟨n, hn⟩ : ∃ n, n = whole3 ((sb s).drop k) := ⟨_, rfl⟩
        rw [← hn]
        by_cases hn0 : n = 0
        · subst hn0
          have HN := Lib.hid hn
          clear hn
          go_wp2_with fail
          go_meet
          exact ⟨k, c, by omega, rfl, rfl, HU.out, HC.out, fun _ => HN.out.symm, HT2.out⟩
        · have hcnt : 0 ≤ c.count ∧ c.count ≤ k := by
            have h1 := ufeed_ok ((sb s).take k) new_ok
            rw [HU.out] at h1
            obtain ⟨_, h2, h3, h4⟩ := h1
            simp only [Uc.new, Int.zero_add, List.length_take] at h2 h3
            omega
          obtain ⟨cn0, cn1⟩ := hcnt
          obtain ⟨d, hd1, hd2, hd3, hd4⟩ := letter_feed c HC.out ((sb s).drop k) (by intro h; have := congrArg List.length h; rw [List.length_drop, sb_length] at this; simp at this; omega) ((sb_in s).drop k) (by rw [← hn]; exact hn0)
          rw [← hn] at hd1 hd4
          rw [List.length_drop, sb_length] at hd4
          have hd5 := ufeed_step (sb s) k n c d HU.out hd1
          have HD := Lib.hid hd5
          have HD2 := Lib.hid hd2
          have HD3 := Lib.hid hd3
          have hn1 : ((n : Int) == 0) = false := by rw [beq_eq_false_iff_ne]; omega
          clear hd1 hd2 hd3 hd5 hn
          go_wp2_with fail
          go_roundw
          · exact ⟨k + n, d, by omega, by go_num, by rw [HD3.out], HD.out, HD2.out, HT2.out⟩
          · simp [intOf]; omega
      · have hlt' : (s.size : Int) ≤ (k : Int) := by omega
        go_wp2_with fail
        go_meet
        exact ⟨k, c, by omega, rfl, rfl, HU.out, HC.out, fun h => absurd h hlt, HTk.out⟩
  case rest =>
    obtain ⟨k, c, hk, rfl, rfl, hu, hc, hw, ht⟩ := hcut
    have HT := Lib.hid ht
    have HU := Lib.hid hu
    have HC := Lib.hid hc
    have HW := Lib.hid hw
    clear ht hu hc hw
    obtain ⟨cn0, cn1⟩ : 0 ≤ c.count ∧ c.count ≤ k := by
      have h1 := ufeed_ok ((sb s).take k) new_ok
      rw [HU.out] at h1
      obtain ⟨_, h2, h3, h4⟩ := h1
      simp only [Uc.new, Int.zero_add, List.length_take] at h2 h3
      omega
    go_wp2_with fail
    go_loopw [8] (fun a wr => ∃ e : Nat, k + e ≤ s.size ∧ a = .int .i64 (k + e) ∧ (e = 0 ∨ (ufeed c (((sb s).drop k).take e)).1.amid) ∧ Touch NoS w wr) (fun a _ => s.size - (intOf a).toNat)
    case atStart => exact ⟨0, by omega, by go_num, .inl rfl, HT.out⟩
    case round =>
      obtain ⟨e, he, rfl, ha, ht⟩ := hrel
      have HTe := Lib.hid ht
      have HA := Lib.hid ha
      clear ht ha HT
      by_cases hlt : k + e < s.size
      · have hz : (s.extract k (k + e + 1)).size = e + 1 := by rw [ByteArray.size_extract]; omega
        have hsb : sb (s.extract k (k + e + 1)) = ((sb s).drop k).take (e + 1) := by rw [sb_extract, List.drop_take]; congr 1; omega
        have HSB := Lib.hid hsb
        have HZ := Lib.hid hz
        have hlt' : (k : Int) + e < s.size := by omega
        have hsl : ∀ W, (Instr.slice 9 (.string s) (some (.int .i64 k)) (some (.int .i64 ((k : Int) + e + 1))) none).run Try.prog W = .ok (.string (s.extract k (k + e + 1))) W := fun W => by
          have := run_slice_string (P := Try.prog) W 9 s .i64 .i64 (k : Int) ((k : Int) + e + 1) Try.underlying9 (by omega) (by omega) (by omega)
          rw [this]
          congr 3
        clear hz hsb
        go_wp2_with fail
        refine (r3_begins (s.extract k (k + e + 1)) (by rw [HZ.out]; omega) (by rw [HZ.out]; omega) _).mono ?_
        rintro e' w2 ⟨rfl, ht⟩
        have HT2 := Lib.hid (HTe.out.trans ht)
        clear ht HTe hsl
        rw [HSB.out]
        rcases begins_feed c HC.out ((sb s).drop k) ((sb_in s).drop k) (HW.out (by omega)) e (by rw [List.length_drop, sb_length]; omega) HA.out with ⟨hb, ha2⟩ | ⟨hb, ha2⟩
        · rw [hb]
          have HA2 := Lib.hid ha2
          clear hb ha2
          go_wp2_with fail
          go_roundw
          · exact ⟨e + 1, by omega, by go_num, .inr HA2.out, HT2.out⟩
          · simp [intOf]; omega
        · have hE := read_end (sb s) k c (by rw [sb_length]; exact hk) HU.out HC.out (fun h => HW.out (by rw [sb_length] at h; exact h)) e (by rw [sb_length]; omega) HA.out (fun _ => hb) (sb_in s)
          rw [hb]
          rw [sb_length] at hE
          have HE := Lib.hid hE
          clear hb ha2 hE
          go_wp2
          go_ret3
          refine ⟨c.count, ?_, ?_, cn0, by omega, HT2.out⟩
          · rw [HE.out.1, HE.out.2.1, ← int_beq_nat]
            rfl
          · intro h
            rw [HE.out.2.1] at h
            exact (HE.out.2.2 (of_decide_eq_true h)).symm
      · have hE := read_end (sb s) k c (by rw [sb_length]; exact hk) HU.out HC.out (fun h => HW.out (by rw [sb_length] at h; exact h)) e (by rw [sb_length]; omega) HA.out (fun h => by rw [sb_length] at h; omega) (sb_in s)
        rw [sb_length] at hE
        have HE := Lib.hid hE
        have hlt' : (s.size : Int) ≤ (k : Int) + e := by omega
        clear hE
        go_wp2
        go_ret3
        refine ⟨c.count, ?_, ?_, cn0, by omega, HTe.out⟩
        · rw [HE.out.1, HE.out.2.1, ← int_beq_nat]
          rfl
        · intro h
          rw [HE.out.2.1] at h
          exact (HE.out.2.2 (of_decide_eq_true h)).symm
end Go.Proofs.Ytfafpcmdgjmlhaa
