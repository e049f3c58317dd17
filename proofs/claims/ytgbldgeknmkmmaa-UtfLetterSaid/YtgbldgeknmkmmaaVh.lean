/- A letter's bytes at the checker; the law UtfCounts: the walk. -/
import Derived.Test.YtgbldgeknmkmmaaVf
import Derived.Test.YtgbldgeknmkmmaaUj
namespace Go.Proofs.Ytgbldgeknmkmmaa
open Go.RowKit
set_option linter.unusedSimpArgs false
set_option linter.unusedVariables false

theorem put3_cases {n : Int} {bs : List Int} (h : put3 n = some bs) :
    (∃ b, bs = [b] ∧ 0 ≤ b ∧ b < 128) ∨ (∃ b x, bs = [b, x] ∧ 194 ≤ b ∧ b ≤ 223 ∧ 128 ≤ x ∧ x ≤ 191)
    ∨ (∃ b x y, bs = [b, x, y] ∧ 224 ≤ b ∧ b ≤ 239 ∧ lo3 b ≤ x ∧ x ≤ hi3 b ∧ 128 ≤ x ∧ x ≤ 191 ∧ 128 ≤ y ∧ y ≤ 191)
    ∨ (∃ b x y z, bs = [b, x, y, z] ∧ 240 ≤ b ∧ b ≤ 244 ∧ lo3 b ≤ x ∧ x ≤ hi3 b ∧ 128 ≤ x ∧ x ≤ 191 ∧ 128 ≤ y ∧ y ≤ 191 ∧ 128 ≤ z ∧ z ≤ 191) := by
  unfold put3 at h
  split at h
  · cases h
  split at h
  · injection h with h
    exact .inl ⟨n, h.symm, by omega, by omega⟩
  split at h
  · injection h with h
    exact .inr (.inl ⟨_, _, h.symm, by omega, by omega, by omega, by omega⟩)
  split at h
  · injection h with h
    refine .inr (.inr (.inl ⟨_, _, _, h.symm, by omega, by omega, ?_, ?_, by omega, by omega, by omega, by omega⟩))
    · unfold lo3; repeat' split
      all_goals omega
    · unfold hi3; repeat' split
      all_goals omega
  · injection h with h
    refine .inr (.inr (.inr ⟨_, _, _, _, h.symm, by omega, by omega, ?_, ?_, by omega, by omega, by omega, by omega, by omega, by omega⟩))
    · unfold lo3; repeat' split
      all_goals omega
    · unfold hi3; repeat' split
      all_goals omega
theorem put3_whole {n : Int} {bs : List Int} (h : put3 n = some bs) : whole3 bs = bs.length ∧ bs ≠ [] ∧ bytesIn bs ∧ bs.length ≤ 4 := by
  have hin : bytesIn bs := by have := put3_in n; rw [h] at this; exact this
  rcases put3_cases h with ⟨b, rfl, k1, k2⟩ | ⟨b, x, rfl, k1, k2, k3, k4⟩ | ⟨b, x, y, rfl, k1, k2, k3, k4, k5, k6, k7, k8⟩ | ⟨b, x, y, z, rfl, k1, k2, k3, k4, k5, k6, k7, k8, k9, k10⟩
  · exact ⟨whole3_1 b [] k1 k2, by simp, hin, by simp⟩
  · exact ⟨by rw [whole3_2 b x [] (by omega) (by omega) (by omega) (by omega), if_pos (by omega)]; rfl, by simp, hin, by simp⟩
  · exact ⟨by rw [whole3_3 b x y [] (by omega) (by omega) (by omega) (by omega) (by omega) (by omega), if_pos ⟨k3, k4, k7, k8⟩]; rfl, by simp, hin, by simp⟩
  · exact ⟨by rw [whole3_4 b x y z [] (by omega) (by omega) (by omega) (by omega) (by omega) (by omega) (by omega) (by omega), if_pos ⟨k2, k3, k4, k7, k8, k9, k10⟩]; rfl, by simp, hin, by simp⟩
theorem put3_feed {n : Int} {bs : List Int} (h : put3 n = some bs) (c : Uc) (hc : c.ready) : ∃ d, ufeed c bs = (d, bs.length) ∧ d.ready ∧ d.count = c.count + 1 := by
  obtain ⟨h1, h2, h3, _⟩ := put3_whole h
  obtain ⟨d, r1, r2, r3, _⟩ := letter_feed c hc bs h2 h3 (by rw [h1]; exact fun h => h2 (List.length_eq_zero_iff.1 h))
  rw [h1, List.take_length] at r1
  exact ⟨d, r1, r2, r3⟩
theorem putS_sb {n : Int} {bs : List Int} (h : put3 n = some bs) : sb (putS n) = bs := by
  unfold putS
  rw [h]
  exact sb_nums bs (put3_whole h).2.2.1
theorem i64_at {w : World} {A : Option Addr} {l : List Int} (h : Rd w A (l.flatMap fun x => [.int .i64 x])) (k : Nat) (hk : k < l.length) : ∃ g off, A = some ⟨g, off, none⟩ ∧ g < w.heap.size ∧ w.cell? ⟨g, off + k, none⟩ = some (.int .i64 l[k]) := by
  have hf : ∀ l : List Int, (l.flatMap fun x => [Value.int .i64 x]) = l.map (Value.int .i64) := fun l => by induction l <;> simp_all
  rw [hf] at h
  obtain ⟨g, off, rfl, hg, hc⟩ := h (by intro h0; simp at h0; rw [h0] at hk; exact absurd hk (by simp))
  exact ⟨g, off, rfl, hg, hc k _ (by simp [hk])⟩

set_option maxHeartbeats 1600000 in
theorem counts_row (w : World) (A : Option Addr) (l : List Int) (cap : Nat) (hr : Rd w A (l.flatMap fun x => [.int .i64 x])) (hg : ∀ x ∈ l, (Lit.int .i64 x).wf = true) (hlc : l.length ≤ cap) (hc : cap ≤ maxLen) :
    Calls Try.prog 12 #[.slice A l.length cap] w fun e w' => e = .returned (.bool true) ∧ Touch NoS w w' := by
  have kv := fun (W : World) (s : ByteArray) => Lib.run_convert_string_bytes (P := Try.prog) W 9 48 5 s Try.underlying9 Try.underlying48 Try.underlying5
  have HR := Lib.hid hr
  clear hr hg
  unfold maxLen at hc
  go_enter Try.func12, Try.ntmps12
  go_wp2_with fail
  refine (u_awake _).mono ?_
  rintro e w1 ⟨rfl, ht⟩
  have HT := Lib.hid ht
  clear ht
  by_cases h30 : 30 < l.length
  · go_wp2_with fail
    refine (u_awake _).mono ?_
    rintro e w3 ⟨rfl, ht⟩
    have HT3 := Lib.hid (HT.out.trans ht)
    clear ht
    go_wp2
    go_ret
    exact ⟨rfl, HT3.out⟩
  go_wp2_with fail
  go_loopw [5, 3, 4] (fun i a n wr => ∃ (k : Nat) (s : ByteArray) (c : Uc), k ≤ l.length ∧ i = .int .i64 k ∧ a = .string s ∧ n = .int .i64 c.count ∧ ufeed Uc.new (sb s) = (c, s.size) ∧ c.ready ∧ s.size ≤ 4 * k ∧ 0 ≤ c.count ∧ c.count ≤ k ∧ Touch NoS w wr) (fun i _ _ _ => l.length - (intOf i).toNat)
  case atStart => exact ⟨0, ⟨#[]⟩, Uc.new, by omega, rfl, rfl, rfl, rfl, ⟨rfl, rfl⟩, by simp [ByteArray.size], by simp [Uc.new], by simp [Uc.new], HT.out⟩
  case round =>
    obtain ⟨k, s, c, hk, rfl, rfl, rfl, hu, hcr, hz, c0, c1, ht⟩ := hrel
    have HU := Lib.hid hu
    have HC := Lib.hid hcr
    have HTk := Lib.hid ht
    clear hu hcr ht HT
    by_cases hlt : k < l.length
    · obtain ⟨gA, off, rfl, hgA, ca⟩ := i64_at (HR.out.touch_no HTk.out) k hlt
      obtain ⟨x, hx⟩ : ∃ x, x = l[k] := ⟨_, rfl⟩
      rw [← hx] at ca
      clear hx
      go_wp2_with fail
      refine (r3_put x _).mono ?_
      rintro e w2 ⟨rfl, ht⟩
      have HT2 := Lib.hid (HTk.out.trans ht)
      clear ht HTk ca
      cases hp : put3 x with
      | none =>
        rw [show (none : Option (List Int)).isSome = false from rfl]
        clear hp
        go_wp2_with fail
        go_roundw
        · exact ⟨k + 1, s, c, by omega, by go_num, rfl, rfl, HU.out, HC.out, by omega, c0, by omega, HT2.out⟩
        · simp [intOf]; omega
      | some bs =>
        rw [show (some bs).isSome = true from rfl]
        obtain ⟨d, hd1, hd2, hd3⟩ := put3_feed hp c HC.out
        have hsb := putS_sb hp
        have hz2 : (putS x).size = bs.length := by rw [← sb_length, hsb]
        have hz4 := (put3_whole hp).2.2.2
        have hnew : ufeed Uc.new (sb (s ++ putS x)) = (d, (s ++ putS x).size) := by
          rw [sb_append, hsb, ByteArray.size_append, hz2]
          obtain ⟨e1, e2⟩ := ufeed_append (sb s) bs Uc.new
          rw [HU.out] at e1 e2
          rw [hd1] at e1 e2
          exact Prod.ext e1 e2
        obtain ⟨p, hpp⟩ : ∃ p, p = putS x := ⟨_, rfl⟩
        rw [← hpp] at hz2 hnew ⊢
        have hpz : p.size ≤ 4 := by omega
        have HN := Lib.hid hnew
        have HD2 := Lib.hid hd2
        have HD3 := Lib.hid hd3
        clear hd1 hd2 hd3 hsb hz2 hz4 hnew hpp hp
        go_wp2_with fail
        go_roundw
        · exact ⟨k + 1, s ++ p, d, by omega, by go_num, rfl, by rw [HD3.out], HN.out, HD2.out, by rw [ByteArray.size_append]; omega, by rw [HD3.out]; omega, by rw [HD3.out]; omega, HT2.out⟩
        · simp [intOf]; omega
    · have hco : ucount (sb s) = (c.count, true) := by
        have hw : c.whole = true := by unfold Uc.whole; rw [HC.out.1, HC.out.2]; rfl
        unfold ucount
        rw [HU.out, if_pos hw]
      have HCO := Lib.hid hco
      clear hco
      go_wp2_with fail
      refine (u_countc s _ _ rfl _ (by omega)).mono ?_
      rintro e w2 ⟨rfl, ht⟩
      have HT2 := Lib.hid (HTk.out.trans ht)
      clear ht HTk
      rw [HCO.out]
      go_wp2
      go_ret
      exact ⟨rfl, HT2.out⟩
end Go.Proofs.Ytgbldgeknmkmmaa
