/- mask: least. | mask: Get. -/
import Derived.Test.YtpadlcllcmodaaaY03
/- mask: least. -/
namespace Go.Proofs.Ytpadlcllcmodaaa
open Go.RowKit
set_option linter.unusedSimpArgs false
set_option linter.unusedVariables false

/-- The number that bytes begin, d at each place behind them. -/
def numB (d : Int) (l : List Int) : Nat → Int
  | 0 => 0
  | k + 1 => numB d l k * 256 + l.getD k d
theorem getD_in {l : List Int} (h : bytesIn l) (d : Int) (hd : 0 ≤ d ∧ d ≤ 255) (k : Nat) : 0 ≤ l.getD k d ∧ l.getD k d ≤ 255 := by
  rw [List.getD_eq_getElem?_getD]
  cases hk : l[k]? with
  | none => simpa using hd
  | some x => exact h x (List.mem_of_getElem? hk)
theorem numB_bound {l : List Int} (h : bytesIn l) (d : Int) (hd : 0 ≤ d ∧ d ≤ 255) : ∀ k, 0 ≤ numB d l k ∧ numB d l k < 256 ^ k := by
  intro k
  induction k with
  | zero => simp [numB]
  | succ k ih =>
    have := getD_in h d hd k
    simp only [numB, Int.pow_succ]
    omega

set_option maxHeartbeats 1600000 in
set_option maxRecDepth 100000 in
theorem m_least (A : Option Addr) (l : List Int) (cap : Nat) (m : Nat) (hm : m ≤ 8) (w : World) (hr : Rd w A (u8s l)) (hb : bytesIn l) (hl : l.length ≤ 4611686018427387904) :
    Calls Try.prog 100 #[.slice A l.length cap, .int .i64 m] w fun e w' =>
      e = .returned (.tuple #[.int .u64 (numB 0 l m), .int .u64 (numB 255 l m)]) ∧ Touch NoS w w' := by
  have HR := Lib.hid hr
  have HB := Lib.hid hb
  clear hr hb
  go_enter Try.func100, Try.ntmps100
  go_wp2_with fail
  go_loopw [12, 6, 7] (fun i a b wr => ∃ k : Nat, k ≤ m ∧ i = .int .i64 k ∧ a = .int .u64 (numB 0 l k) ∧ b = .int .u64 (numB 255 l k) ∧ Touch NoS w wr) (fun i _ _ _ => m - (intOf i).toNat)
  case atStart => exact ⟨0, by omega, rfl, rfl, rfl, Touch.refl _ _⟩
  case round =>
    obtain ⟨k, hk, rfl, rfl, rfl, ht⟩ := hrel
    have HT := Lib.hid ht
    clear ht
    by_cases hlt : k < m
    · have b1 := numB_bound HB.out 0 (by omega) k
      have b2 := numB_bound HB.out 255 (by omega) k
      have hp : (256 : Int) ^ k ≤ 72057594037927936 := by
        have : (256 : Nat) ^ k ≤ 256 ^ 7 := Nat.pow_le_pow_right (by omega) (by omega)
        have h2 : ((256 ^ k : Nat) : Int) ≤ ((256 ^ 7 : Nat) : Int) := by exact_mod_cast this
        simpa using h2
      obtain ⟨u, hu⟩ : ∃ u, u = numB 0 l k := ⟨_, rfl⟩
      obtain ⟨v, hv⟩ : ∃ v, v = numB 255 l k := ⟨_, rfl⟩
      rw [← hu] at b1
      rw [← hv] at b2
      rw [← hu, ← hv]
      have c1 : u < 72057594037927936 := by omega
      have c2 : v < 72057594037927936 := by omega
      obtain ⟨c3, _⟩ := b1
      obtain ⟨c4, _⟩ := b2
      have d1 : 0 ≤ l.getD k 0 ∧ l.getD k 0 ≤ 255 := getD_in HB.out 0 (by omega) k
      have d2 : 0 ≤ l.getD k 255 ∧ l.getD k 255 ≤ 255 := getD_in HB.out 255 (by omega) k
      have HU : Hid (numB 0 l (k + 1) = u * 256 + l.getD k 0) := by rw [hu]; rfl
      have HV : Hid (numB 255 l (k + 1) = v * 256 + l.getD k 255) := by rw [hv]; rfl
      obtain ⟨x, hx⟩ : ∃ x, x = l.getD k 0 := ⟨_, rfl⟩
      obtain ⟨y, hy⟩ : ∃ y, y = l.getD k 255 := ⟨_, rfl⟩
      rw [← hx] at d1 HU
      rw [← hy] at d2 HV
      obtain ⟨d3, d4⟩ := d1
      obtain ⟨d5, d6⟩ := d2
      clear hu hv hp
      have s1 : bits .or .u64 (u * 256) x = u * 256 + x := bits_join .u64 64 (by decide) (fun n h0 h1 => IntWalk.u64_in n (by omega)) 8 _ _ (by omega) (by omega) (by omega) (by omega) (by omega) (by omega)
      have s2 : bits .or .u64 (v * 256) y = v * 256 + y := bits_join .u64 64 (by decide) (fun n h0 h1 => IntWalk.u64_in n (by omega)) 8 _ _ (by omega) (by omega) (by omega) (by omega) (by omega) (by omega)
      by_cases hkl : k < l.length
      · obtain ⟨gA, off, rfl, hgA, ca⟩ := u8s_at (HR.out.touch_no HT.out) k hkl
        have e1 : l[k] = x := by rw [hx, List.getD_eq_getElem?_getD, List.getElem?_eq_getElem hkl]; rfl
        have e2 : y = x := by rw [hx, hy, List.getD_eq_getElem?_getD, List.getD_eq_getElem?_getD, List.getElem?_eq_getElem hkl]; rfl
        subst e2
        rw [e1] at ca
        clear hx hy e1
        go_wp2_with fail
        go_quiet (fail)
        go_wp2_with fail
        go_roundw
        · exact ⟨k + 1, by omega, by go_num, by rw [HU.out], by rw [HV.out], HT.out.drewN _⟩
        · simp [intOf]; omega
      · have e1 : x = 0 := by rw [hx, List.getD_eq_getElem?_getD, List.getElem?_eq_none (by omega)]; rfl
        have e2 : y = 255 := by rw [hy, List.getD_eq_getElem?_getD, List.getElem?_eq_none (by omega)]; rfl
        subst e1
        subst e2
        clear hx hy
        go_wp2_with fail
        go_roundw
        · exact ⟨k + 1, by omega, by go_num, by rw [HU.out]; go_num, by rw [HV.out], HT.out⟩
        · simp [intOf]; omega
    · have hkm : k = m := by omega
      subst hkm
      go_wp2
      go_ret2
      exact ⟨rfl, HT.out⟩
theorem m_least_ (A : Option Addr) (l : List Int) (n cap : Nat) (hn : l.length = n) (m : Nat) (mi : Int) (hmi : (m : Int) = mi) (hm : m ≤ 8) (w : World) (hr : Rd w A (u8s l)) (hb : bytesIn l) (hl : l.length ≤ 4611686018427387904) :
    Calls Try.prog 100 #[.slice A n cap, .int .i64 mi] w fun e w' =>
      e = .returned (.tuple #[.int .u64 (numB 0 l m), .int .u64 (numB 255 l m)]) ∧ Touch NoS w w' := by
  subst hn
  subst hmi
  exact m_least A l cap m hm w hr hb hl
end Go.Proofs.Ytpadlcllcmodaaa
/- mask: Get. -/
namespace Go.Proofs.Ytpadlcllcmodaaa
open Go.RowKit
set_option linter.unusedSimpArgs false
set_option linter.unusedVariables false

/-- The length that bytes begin with: the number, how many bytes it has, what is wrong. -/
def getSize (b : List Int) (size : Nat) (lo hi : Int) : Int × Nat × Int :=
  if numB 255 ((b.take (1 + size)).drop 1) size < lo ∨ hi < numB 0 ((b.take (1 + size)).drop 1) size then (0, 0, 81)
  else if b.length < 1 + size then (0, 0, 80)
  else (numB 0 ((b.take (1 + size)).drop 1) size, 1 + size, 0)
def getLen (b : List Int) : Int × Nat × Int :=
  if b = [] then (0, 0, 80)
  else if b.getD 0 0 % 128 = 126 then getSize b 2 126 65535
  else if b.getD 0 0 % 128 = 127 then getSize b 8 65536 9223372036854775807
  else (b.getD 0 0 % 128, 1, 0)

theorem rd_window {w : World} {g off : Nat} {l : List Int} (h : Rd w (some ⟨g, off, none⟩) (u8s l)) (i j : Nat) : Rd w (some ⟨g, off + i, none⟩) (u8s ((l.take j).drop i)) := fun hx => by
  have hne : u8s l ≠ [] := by
    intro h0
    apply hx
    have : l = [] := by simpa [u8s] using h0
    subst this
    simp [u8s]
  obtain ⟨g', off', he, hg, hc⟩ := h hne
  injection he with he
  injection he with h1 h2
  subst h1
  subst h2
  refine ⟨g, off + i, rfl, hg, fun k u hu => ?_⟩
  rw [Nat.add_assoc]
  apply hc
  simp only [u8s, List.getElem?_map, List.getElem?_drop, List.getElem?_take] at hu ⊢
  split at hu
  · exact hu
  · simp at hu
set_option maxHeartbeats 1600000 in
set_option maxRecDepth 100000 in
theorem m_get (A : Option Addr) (l : List Int) (cap : Nat) (w : World) (hr : Rd w A (u8s l)) (hb : bytesIn l) (hl : l.length ≤ cap) (hc : cap ≤ maxLen) (hl2 : l.length ≤ 4611686018427387904) :
    Calls Try.prog 87 #[.slice A l.length cap] w fun e w' =>
      e = .returned (.tuple #[.int .u64 (getLen l).1, .int .i64 (getLen l).2.1, .int .i64 (getLen l).2.2]) ∧ Touch NoS w w' := by
  have HR := Lib.hid hr
  have HB := Lib.hid hb
  unfold maxLen at hc
  clear hr hb
  by_cases h0 : l = []
  · subst h0
    have hg : getLen [] = (0, 0, 80) := rfl
    rw [hg]
    clear hg
    go_enter Try.func87, Try.ntmps87
    go_wp2
    go_ret3
    exact ⟨rfl, Touch.refl _ _⟩
  have hpos : 0 < l.length := by cases l with | nil => exact absurd rfl h0 | cons x t => simp
  obtain ⟨gA, off, rfl, hgA, ca⟩ := u8s_at HR.out 0 hpos
  obtain ⟨x, hx⟩ : ∃ x, x = l[0] := ⟨_, rfl⟩
  have hx8 : 0 ≤ x ∧ x ≤ 255 := by rw [hx]; exact HB.out _ (List.getElem_mem hpos)
  have hxd : l.getD 0 0 = x := by rw [hx, List.getD_eq_getElem?_getD, List.getElem?_eq_getElem hpos]; rfl
  rw [← hx, Nat.add_zero] at ca
  have hand : bits .and .u8 x 127 = x % 128 := by
    have := bits_mask .u8 8 (by decide) (fun n h0 h1 => IntWalk.u8_in n (by omega)) 7 (by omega) x (by omega) (by omega)
    simpa using this
  obtain ⟨y, hy⟩ : ∃ y, y = x % 128 := ⟨_, rfl⟩
  rw [← hy] at hand
  have y0 : 0 ≤ y := by omega
  have y1 : y ≤ 127 := by omega
  have hpos' : (0 : Int) < l.length := by omega
  have hne : ((l.length : Int) == 0) = false := by rw [beq_eq_false_iff_ne]; omega
  by_cases h126 : y = 126
  · have hg : getLen l = getSize l 2 126 65535 := by unfold getLen; rw [if_neg h0, hxd, ← hy, if_pos h126]
    obtain ⟨R, hR⟩ : ∃ R, R = getLen l := ⟨_, rfl⟩
    rw [← hR]
    rw [hg] at hR
    subst h126
    obtain ⟨r, hrr⟩ : ∃ r, r = (l.take (1 + 2)).drop 1 := ⟨_, rfl⟩
    have hrl : r.length = min l.length (1 + 2) - 1 := by rw [hrr]; simp; omega
    have hrb : bytesIn r := by rw [hrr]; exact (HB.out.take _).drop _
    have hrd : l.length ≠ 1 → Rd w (some ⟨gA, off + 1, none⟩) (u8s r) := fun _ => by
      rw [hrr]
      exact rd_window HR.out 1 (1 + 2)
    unfold getSize at hR
    rw [← hrr] at hR
    have HRD := Lib.hid hrd
    have HRB := Lib.hid hrb
    have HRL := Lib.hid hrl
    obtain ⟨a, ha⟩ : ∃ a, a = numB 0 r 2 := ⟨_, rfl⟩
    obtain ⟨b, hb⟩ : ∃ b, b = numB 255 r 2 := ⟨_, rfl⟩
    have hab := numB_bound HRB.out 0 (by omega) 2
    have hbb := numB_bound HRB.out 255 (by omega) 2
    rw [← ha] at hab hR
    rw [← hb] at hbb hR
    have HRR := Lib.hid hR
    clear hR
    obtain ⟨a0, a1⟩ := hab
    obtain ⟨b0, b1⟩ := hbb
    have HA := Lib.hid ha
    have HBB := Lib.hid hb
    clear hg hy hx hxd hx8 h0 hrr hrd hrb hrl ha hb
    by_cases hl1 : l.length = 1
    · go_enter Try.func87, Try.ntmps87
      go_wp2_with fail
      refine (m_least_ _ r _ _ (by rw [HRL.out, hl1]; rfl) 2 2 (by decide) (by omega) _ (fun hx => absurd (by have := HRL.out; rw [hl1] at this; have h0 := List.eq_nil_of_length_eq_zero (l := r) (by omega); rw [h0]; rfl) hx) HRB.out (by have := HRL.out; omega)).mono ?_
      rintro e w1 ⟨rfl, ht⟩
      have HT := Lib.hid ht
      clear ht
      rw [← HA.out, ← HBB.out]
      by_cases c1 : b < 126
      · rw [if_pos (.inl c1)] at HRR
        go_wp2
        go_ret3
        exact ⟨by rw [HRR.out]; rfl, HT.out⟩
      by_cases c2 : 65535 < a
      · rw [if_pos (.inr c2)] at HRR
        go_wp2
        go_ret3
        exact ⟨by rw [HRR.out]; rfl, HT.out⟩
      rw [if_neg (by omega)] at HRR
      by_cases c3 : l.length < 1 + 2
      · rw [if_pos c3] at HRR
        go_wp2
        go_ret3
        exact ⟨by rw [HRR.out]; rfl, HT.out⟩
      · omega
    · go_enter Try.func87, Try.ntmps87
      go_wp2_with fail
      refine (m_least_ _ r _ _ (by have := HRL.out; omega) 2 2 (by decide) (by omega) _ (HRD.out hl1) HRB.out (by have := HRL.out; omega)).mono ?_
      rintro e w1 ⟨rfl, ht⟩
      have HT := Lib.hid ht
      clear ht
      rw [← HA.out, ← HBB.out]
      by_cases c1 : b < 126
      · rw [if_pos (.inl c1)] at HRR
        go_wp2
        go_ret3
        exact ⟨by rw [HRR.out]; rfl, HT.out⟩
      by_cases c2 : 65535 < a
      · rw [if_pos (.inr c2)] at HRR
        go_wp2
        go_ret3
        exact ⟨by rw [HRR.out]; rfl, HT.out⟩
      rw [if_neg (by omega)] at HRR
      by_cases c3 : l.length < 1 + 2
      · rw [if_pos c3] at HRR
        go_wp2
        go_ret3
        exact ⟨by rw [HRR.out]; rfl, HT.out⟩
      · rw [if_neg c3] at HRR
        go_wp2
        go_ret3
        exact ⟨by rw [HRR.out]; rfl, HT.out⟩
  by_cases h127 : y = 127
  · have hg : getLen l = getSize l 8 65536 9223372036854775807 := by unfold getLen; rw [if_neg h0, hxd, ← hy, if_neg (by omega), if_pos h127]
    obtain ⟨R, hR⟩ : ∃ R, R = getLen l := ⟨_, rfl⟩
    rw [← hR]
    rw [hg] at hR
    subst h127
    obtain ⟨r, hrr⟩ : ∃ r, r = (l.take (1 + 8)).drop 1 := ⟨_, rfl⟩
    have hrl : r.length = min l.length (1 + 8) - 1 := by rw [hrr]; simp; omega
    have hrb : bytesIn r := by rw [hrr]; exact (HB.out.take _).drop _
    have hrd : l.length ≠ 1 → Rd w (some ⟨gA, off + 1, none⟩) (u8s r) := fun _ => by
      rw [hrr]
      exact rd_window HR.out 1 (1 + 8)
    unfold getSize at hR
    rw [← hrr] at hR
    have HRD := Lib.hid hrd
    have HRB := Lib.hid hrb
    have HRL := Lib.hid hrl
    obtain ⟨a, ha⟩ : ∃ a, a = numB 0 r 8 := ⟨_, rfl⟩
    obtain ⟨b, hb⟩ : ∃ b, b = numB 255 r 8 := ⟨_, rfl⟩
    have hab := numB_bound HRB.out 0 (by omega) 8
    have hbb := numB_bound HRB.out 255 (by omega) 8
    rw [← ha] at hab hR
    rw [← hb] at hbb hR
    have HRR := Lib.hid hR
    clear hR
    obtain ⟨a0, a1⟩ := hab
    obtain ⟨b0, b1⟩ := hbb
    have HA := Lib.hid ha
    have HBB := Lib.hid hb
    clear hg hy hx hxd hx8 h0 hrr hrd hrb hrl ha hb
    by_cases hl1 : l.length = 1
    · go_enter Try.func87, Try.ntmps87
      go_wp2_with fail
      refine (m_least_ _ r _ _ (by rw [HRL.out, hl1]; rfl) 8 8 (by decide) (by omega) _ (fun hx => absurd (by have := HRL.out; rw [hl1] at this; have h0 := List.eq_nil_of_length_eq_zero (l := r) (by omega); rw [h0]; rfl) hx) HRB.out (by have := HRL.out; omega)).mono ?_
      rintro e w1 ⟨rfl, ht⟩
      have HT := Lib.hid ht
      clear ht
      rw [← HA.out, ← HBB.out]
      by_cases c1 : b < 65536
      · rw [if_pos (.inl c1)] at HRR
        go_wp2
        go_ret3
        exact ⟨by rw [HRR.out]; rfl, HT.out⟩
      by_cases c2 : 9223372036854775807 < a
      · rw [if_pos (.inr c2)] at HRR
        go_wp2
        go_ret3
        exact ⟨by rw [HRR.out]; rfl, HT.out⟩
      rw [if_neg (by omega)] at HRR
      by_cases c3 : l.length < 1 + 8
      · rw [if_pos c3] at HRR
        go_wp2
        go_ret3
        exact ⟨by rw [HRR.out]; rfl, HT.out⟩
      · omega
    · go_enter Try.func87, Try.ntmps87
      go_wp2_with fail
      refine (m_least_ _ r _ _ (by have := HRL.out; omega) 8 8 (by decide) (by omega) _ (HRD.out hl1) HRB.out (by have := HRL.out; omega)).mono ?_
      rintro e w1 ⟨rfl, ht⟩
      have HT := Lib.hid ht
      clear ht
      rw [← HA.out, ← HBB.out]
      by_cases c1 : b < 65536
      · rw [if_pos (.inl c1)] at HRR
        go_wp2
        go_ret3
        exact ⟨by rw [HRR.out]; rfl, HT.out⟩
      by_cases c2 : 9223372036854775807 < a
      · rw [if_pos (.inr c2)] at HRR
        go_wp2
        go_ret3
        exact ⟨by rw [HRR.out]; rfl, HT.out⟩
      rw [if_neg (by omega)] at HRR
      by_cases c3 : l.length < 1 + 8
      · rw [if_pos c3] at HRR
        go_wp2
        go_ret3
        exact ⟨by rw [HRR.out]; rfl, HT.out⟩
      · rw [if_neg c3] at HRR
        go_wp2
        go_ret3
        exact ⟨by rw [HRR.out]; rfl, HT.out⟩
  · have hg : getLen l = (y, 1, 0) := by unfold getLen; rw [if_neg h0, hxd, ← hy, if_neg h126, if_neg h127]
    rw [hg]
    have n6 : (y == 126) = false := by rw [beq_eq_false_iff_ne]; exact h126
    have n7 : (y == 127) = false := by rw [beq_eq_false_iff_ne]; exact h127
    clear hg hy hx hxd hx8 h0
    go_enter Try.func87, Try.ntmps87
    go_wp2
    go_ret3
    exact ⟨rfl, Touch.refl _ _⟩
end Go.Proofs.Ytpadlcllcmodaaa
