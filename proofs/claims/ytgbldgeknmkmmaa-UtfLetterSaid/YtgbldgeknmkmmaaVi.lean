/- The law UtfLetter: the walk. -/
import Derived.Test.YtgbldgeknmkmmaaVh
namespace Go.Proofs.Ytgbldgeknmkmmaa
open Go.RowKit
set_option linter.unusedSimpArgs false
set_option linter.unusedVariables false

theorem put3_amid {n : Int} {bs : List Int} (h : put3 n = some bs) (k : Nat) (h0 : 0 < k) (hk : k < bs.length) : (ufeed Uc.new (bs.take k)).1.left ≠ 0 := by
  have hr : Uc.new.ready := ⟨rfl, rfl⟩
  rcases put3_cases h with ⟨b, rfl, k1, k2⟩ | ⟨b, x, rfl, k1, k2, k3, k4⟩ | ⟨b, x, y, rfl, k1, k2, k3, k4, k5, k6, k7, k8⟩ | ⟨b, x, y, z, rfl, k1, k2, k3, k4, k5, k6, k7, k8, k9, k10⟩
  · simp at hk; omega
  · have : k = 1 := by simp at hk; omega
    subst this
    show (ufeed Uc.new [b]).1.left ≠ 0
    rw [ufeed_ok_cons rfl (ut_2 hr k1 k2)]
    show (1 : Int) ≠ 0
    decide
  · have : k = 1 ∨ k = 2 := by simp at hk; omega
    rcases this with rfl | rfl
    · show (ufeed Uc.new [b]).1.left ≠ 0
      rw [ufeed_ok_cons rfl (ut_3 hr k1 k2)]
      show (2 : Int) ≠ 0
      decide
    · show (ufeed Uc.new [b, x]).1.left ≠ 0
      rw [ufeed_ok_cons rfl (ut_3 hr k1 k2), ufeed_ok_cons rfl (ut_mid 2 _ _ _ (by decide) k3 k4)]
      show (1 : Int) ≠ 0
      decide
  · have : k = 1 ∨ k = 2 ∨ k = 3 := by simp at hk; omega
    rcases this with rfl | rfl | rfl
    · show (ufeed Uc.new [b]).1.left ≠ 0
      rw [ufeed_ok_cons rfl (ut_4 hr k1 k2)]
      show (3 : Int) ≠ 0
      decide
    · show (ufeed Uc.new [b, x]).1.left ≠ 0
      rw [ufeed_ok_cons rfl (ut_4 hr k1 k2), ufeed_ok_cons rfl (ut_mid 3 _ _ _ (by decide) k3 k4)]
      show (2 : Int) ≠ 0
      decide
    · show (ufeed Uc.new [b, x, y]).1.left ≠ 0
      rw [ufeed_ok_cons rfl (ut_4 hr k1 k2), ufeed_ok_cons rfl (ut_mid 3 _ _ _ (by decide) k3 k4), ufeed_ok_cons rfl (ut_mid _ _ _ _ (by decide) k7 k8)]
      show (1 : Int) ≠ 0
      decide
/-- Byte by byte. -/
theorem put3_step {n : Int} {bs : List Int} (h : put3 n = some bs) (k : Nat) (hk : k < bs.length) : (ufeed (ufeed Uc.new (bs.take k)).1 ((bs.take (k + 1)).drop k)).2 = 1 ∧ (ufeed (ufeed Uc.new (bs.take k)).1 ((bs.take (k + 1)).drop k)).1 = (ufeed Uc.new (bs.take (k + 1))).1 ∧ (ufeed Uc.new (bs.take (k + 1))).1.bad = false ∧ (ufeed Uc.new (bs.take (k + 1))).1.whole = decide (k + 1 = bs.length) := by
  obtain ⟨d, hd1, hd2, _⟩ := put3_feed h Uc.new ⟨rfl, rfl⟩
  have h1 : ∀ i, i ≤ bs.length → (ufeed Uc.new (bs.take i)).2 = i ∧ (ufeed Uc.new (bs.take i)).1.bad = false := by
    intro i hi
    obtain ⟨e1, e2⟩ := ufeed_take bs Uc.new i rfl
    rw [hd1] at e1 e2
    refine ⟨by rw [e1]; show min (min i bs.length) bs.length = i; omega, ?_⟩
    cases hb : (ufeed Uc.new (bs.take i)).1.bad
    · rfl
    · have := e2.1 hb
      simp only at this
      omega
  have hs : bs.take (k + 1) = bs.take k ++ (bs.take (k + 1)).drop k := by
    conv => lhs; rw [← List.take_append_drop k (bs.take (k + 1))]
    rw [List.take_take, show min k (k + 1) = k from by omega]
  obtain ⟨a1, a2⟩ := ufeed_append (bs.take k) ((bs.take (k + 1)).drop k) Uc.new
  rw [← hs] at a1 a2
  rw [(h1 (k + 1) (by omega)).1, (h1 k (by omega)).1] at a2
  refine ⟨by omega, a1.symm, (h1 (k + 1) (by omega)).2, ?_⟩
  by_cases hl : k + 1 = bs.length
  · rw [decide_eq_true hl, hl, List.take_length, hd1]
    unfold Uc.whole
    rw [hd2.1, hd2.2]; rfl
  · rw [decide_eq_false hl]
    unfold Uc.whole
    rw [decide_eq_false (put3_amid h (k + 1) (by omega) (by omega))]
    simp

set_option maxHeartbeats 1600000 in
theorem letter_row (w : World) (n : Int) (hn : (Lit.int .i64 n).wf = true) (more : Int) (hmore : (Lit.int .u8 more).wf = true) :
    Calls Try.prog 9 #[.int .i64 n, .int .u8 more] w fun e w' => e = .returned (.bool true) ∧ Touch NoS w w' := by
  have kv := fun (W : World) (s : ByteArray) => Lib.run_convert_string_bytes (P := Try.prog) W 9 48 5 s Try.underlying9 Try.underlying48 Try.underlying5
  obtain ⟨m0, m1⟩ := u8_bounds hmore
  clear hn hmore
  go_enter Try.func9, Try.ntmps9
  go_wp2_with fail
  refine (r3_put n _).mono ?_
  rintro e w1 ⟨rfl, ht⟩
  have HT := Lib.hid ht
  clear ht
  cases hp : put3 n with
  | none =>
    rw [show (none : Option (List Int)).isSome = false from rfl]
    clear hp
    go_wp2_with fail
    refine (u_awake _).mono ?_
    rintro e w2 ⟨rfl, ht⟩
    have HT2 := Lib.hid (HT.out.trans ht)
    clear ht
    go_wp2
    go_ret
    exact ⟨rfl, HT2.out⟩
  | some bs =>
    rw [show (some bs).isSome = true from rfl]
    have hsb := putS_sb hp
    obtain ⟨s, hs⟩ : ∃ s, s = putS n := ⟨_, rfl⟩
    rw [← hs] at hsb ⊢
    have hz : s.size = bs.length := by rw [← sb_length, hsb]
    have hz4 := (put3_whole hp).2.2.2
    have HSB := Lib.hid hsb
    have HP := Lib.hid hp
    have HZ := Lib.hid hz
    have hs4 : s.size ≤ 4 := by omega
    clear hsb hs hp hz
    go_wp2_with fail
    refine (u_new _).mono ?_
    rintro e w2 ⟨g, rfl, hg, hu, ht⟩
    have HU := Lib.hid hu
    have hgw : w.heap.size ≤ g := by have := HT.out.size; omega
    have HT2 := Lib.hid (HT.out.trans ht)
    clear hu ht HT
    go_wp2_with fail
    refine (u_awake _).mono ?_
    rintro e w3 ⟨rfl, ht⟩
    have HU3 := Lib.hid (HU.out.no ht)
    have HT3 := Lib.hid (HT2.out.trans ht)
    clear ht HU HT2
    go_wp2_with fail
    go_loopw [8] (fun i wr => ∃ k : Nat, k ≤ s.size ∧ i = .int .i64 k ∧ IsU wr g (ufeed Uc.new (bs.take k)).1 ∧ Touch NoS w wr) (fun i _ => s.size - (intOf i).toNat)
    case atStart => exact ⟨0, by omega, rfl, HU3.out, HT3.out⟩
    case round =>
      obtain ⟨k, hk, rfl, hu, ht⟩ := hrel
      have HU := Lib.hid hu
      have HT := Lib.hid ht
      clear hu ht HU3 HT3
      by_cases hlt : k < s.size
      · obtain ⟨p1, p2, p3, p4⟩ := put3_step HP.out k (by rw [← HZ.out]; exact hlt)
        have hE : sb (s.extract k (k + 1)) = (bs.take (k + 1)).drop k := by rw [sb_extract, HSB.out]
        have hez : (s.extract k (k + 1)).size = 1 := by rw [ByteArray.size_extract]; omega
        have hsl : ∀ W, (Instr.slice 9 (.string s) (some (.int .i64 k)) (some (.int .i64 ((k : Int) + 1))) none).run Try.prog W = .ok (.string (s.extract k (k + 1))) W := fun W => by
          have := run_slice_string (P := Try.prog) W 9 s .i64 .i64 (k : Int) ((k : Int) + 1) Try.underlying9 (by omega) (by omega) (by omega)
          rw [this]
          congr 3
        have hok := ufeed_ok (bs.take k) new_ok
        have hcnt : (ufeed Uc.new (bs.take k)).1.count ≤ 4 := by
          have := hok.2.1
          simp only [Uc.new, Int.zero_add, List.length_take] at this ⊢
          omega
        rw [← hE] at p1 p2
        rw [← HZ.out] at p4
        have P1 := Lib.hid p1
        have P2 := Lib.hid p2
        have P3 := Lib.hid p3
        have P4 := Lib.hid p4
        have HOK := Lib.hid hok.1
        have HCN := Lib.hid hcnt
        clear p1 p2 p3 p4 hE hok hcnt
        go_wp2_with fail
        refine (u_feedc g _ (s.extract k (k + 1)) 1 _ hez _ HU.out HOK.out (by have := HCN.out; omega)).mono ?_
        rintro e w4 ⟨rfl, hu, ht⟩
        rw [P2.out] at hu
        rw [P1.out]
        have HU4 := Lib.hid hu
        have HT4 := Lib.hid (HT.out.at_new ht hgw)
        clear hu ht HU HT hsl hez
        go_wp2_with fail
        refine (u_right g _ _ HU4.out).mono ?_
        rintro e w5 ⟨rfl, rfl⟩
        rw [P3.out]
        go_wp2_with fail
        refine (u_whole g _ _ HU4.out).mono ?_
        rintro e w5 ⟨rfl, rfl⟩
        rw [P4.out]
        have d1 : (((k : Int) + 1) == (s.size : Int)) = decide (k + 1 = s.size) := int_beq_nat (k + 1) s.size
        have d2 : (decide (k + 1 = s.size) != decide (k + 1 = s.size)) = false := by simp
        go_wp2_with fail
        go_roundw
        · exact ⟨k + 1, by omega, by go_num, HU4.out, HT4.out⟩
        · simp [intOf]; omega
      · have hkl : k = bs.length := by have := HZ.out; omega
        obtain ⟨d, hd1, hd2, hd3⟩ := put3_feed HP.out Uc.new ⟨rfl, rfl⟩
        rw [hkl, List.take_length, hd1] at HU
        have hco : ucount (sb s) = (1, true) := by
          have hw : d.whole = true := by unfold Uc.whole; rw [hd2.1, hd2.2]; rfl
          have hcn : d.count = 1 := hd3
          unfold ucount
          rw [HSB.out, hd1, if_pos hw, hcn]
        have hdok : d.ok := by have := (ufeed_ok bs new_ok).1; rw [hd1] at this; exact this
        have hdc : d.count = 1 := hd3
        have hfeed : ∃ d' : Uc, (ufeed d [more] = (d', 1) ∧ d'.bad = false) ∨ (ufeed d [more] = (d', 0) ∧ d'.bad = true) := by
          have hdb := hd2.2
          cases ht : (utake d more).2
          · exact ⟨{ (utake d more).1 with bad := true }, .inr ⟨by simp only [ufeed, hdb, ht, Bool.false_eq_true, if_false], rfl⟩⟩
          · exact ⟨(utake d more).1, .inl ⟨by simp only [ufeed, hdb, ht, Bool.false_eq_true, if_false, if_true], by show (utake d more).1.bad = false; rw [utake_bad]; exact hdb⟩⟩
        have HCO := Lib.hid hco
        have HDO := Lib.hid hdok
        have HDC := Lib.hid hdc
        have HF := Lib.hid hfeed
        have hlt2 : (s.size : Int) ≤ (k : Int) := by omega
        clear hd1 hd2 hd3 hco hdok hdc hfeed
        go_wp2_with fail
        refine (u_countc s _ _ rfl _ (by omega)).mono ?_
        rintro e w4 ⟨rfl, ht⟩
        have HU4 := Lib.hid (HU.out.no ht)
        have HT4 := Lib.hid (HT.out.trans ht)
        clear ht HU HT
        rw [HCO.out]
        go_wp2_with fail
        refine (u_feed g d _ [more] 1 _ (HU4.out.no ((Touch.refl _ _).alloc _)) HDO.out (Rd.new w4 (u8s [more]) _ _) (by simp [bytesIn]; omega) (by intro a ha; injection ha with ha; subst ha; have := HU4.out.lt; show w4.heap.size ≠ g; omega) (by have := HDC.out; simp; omega)).mono ?_
        rintro e w5 ⟨rfl, hu, ht⟩
        have HT5 := Lib.hid ((HT4.out.alloc _).at_new ht hgw)
        have HU5 := Lib.hid hu
        clear ht hu HT4 HU4
        obtain ⟨d', hf⟩ := HF.out
        rcases hf with ⟨hf, hb⟩ | ⟨hf, hb⟩
        · rw [hf] at HU5 ⊢
          have HB := Lib.hid hb
          clear hf hb HF
          go_wp2_with fail
          refine (u_right g _ _ HU5.out).mono ?_
          rintro e w6 ⟨rfl, rfl⟩
          rw [HB.out]
          go_wp2
          go_ret
          exact ⟨rfl, HT5.out⟩
        · rw [hf] at HU5 ⊢
          have HB := Lib.hid hb
          clear hf hb HF
          go_wp2_with fail
          refine (u_right g _ _ HU5.out).mono ?_
          rintro e w6 ⟨rfl, rfl⟩
          rw [HB.out]
          go_wp2
          go_ret
          exact ⟨rfl, HT5.out⟩
end Go.Proofs.Ytgbldgeknmkmmaa
