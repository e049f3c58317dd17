/- mask: least. -/
import Derived.Test.YtkhppojlabajaaaMc
namespace Go.Proofs.Ytkhppojlabajaaa
open Go.RowKit
set_option linter.unusedSimpArgs false
set_option linter.unusedVariables false

/-- The number that bytes begin, d at each place behind them. -/
def numB (d : Int) (l : List Int) : Nat → Int
  | 0 => 0
  | k + 1 => numB d l k * 256 + l.getD k d
theorem getD_in {l : List Int} (h : bytesIn l) (d : Int) (hd : 0 ≤ d ∧ d ≤ 255) (k : Nat) : 0 ≤ l.getD k d ∧ l.getD k d ≤ 255 := by
  rw [List.getD_eq_getElem?_getD]
  cases hk : l[k]? with
  | none => simpa using hd
  | some x => exact h x (List.mem_of_getElem? hk)
theorem numB_bound {l : List Int} (h : bytesIn l) (d : Int) (hd : 0 ≤ d ∧ d ≤ 255) : ∀ k, 0 ≤ numB d l k ∧ numB d l k < 256 ^ k := by
  intro k
  induction k with
  | zero => simp [numB]
  | succ k ih =>
    have := getD_in h d hd k
    simp only [numB, Int.pow_succ]
    omega

set_option maxHeartbeats 1600000 in
set_option maxRecDepth 100000 in
theorem m_least (A : Option Addr) (l : List Int) (cap : Nat) (m : Nat) (hm : m ≤ 8) (w : World) (hr : Rd w A (u8s l)) (hb : bytesIn l) (hl : l.length ≤ 4611686018427387904) :
    Calls Try.prog 80 #[.slice A l.length cap, .int .i64 m] w fun e w' =>
      e = .returned (.tuple #[.int .u64 (numB 0 l m), .int .u64 (numB 255 l m)]) ∧ Touch NoS w w' := by
  have HR := Lib.hid hr
  have HB := Lib.hid hb
  clear hr hb
  go_enter Try.func80, Try.ntmps80
  go_wp2_with fail
  go_loopw [12, 6, 7] (fun i a b wr => ∃ k : Nat, k ≤ m ∧ i = .int .i64 k ∧ a = .int .u64 (numB 0 l k) ∧ b = .int .u64 (numB 255 l k) ∧ Touch NoS w wr) (fun i _ _ _ => m - (intOf i).toNat)
  case atStart => exact ⟨0, by omega, rfl, rfl, rfl, Touch.refl _ _⟩
  case round =>
    obtain ⟨k, hk, rfl, rfl, rfl, ht⟩ := hrel
    have HT := Lib.hid ht
    clear ht
    by_cases hlt : k < m
    · have b1 := numB_bound HB.out 0 (by omega) k
      have b2 := numB_bound HB.out 255 (by omega) k
      have hp : (256 : Int) ^ k ≤ 72057594037927936 := by
        have : (256 : Nat) ^ k ≤ 256 ^ 7 := Nat.pow_le_pow_right (by omega) (by omega)
        have h2 : ((256 ^ k : Nat) : Int) ≤ ((256 ^ 7 : Nat) : Int) := by exact_mod_cast this
        simpa using h2
      obtain ⟨u, hu⟩ : ∃ u, u = numB 0 l k := ⟨_, rfl⟩
      obtain ⟨v, hv⟩ : ∃ v, v = numB 255 l k := ⟨_, rfl⟩
      rw [← hu] at b1
      rw [← hv] at b2
      rw [← hu, ← hv]
      have c1 : u < 72057594037927936 := by omega
      have c2 : v < 72057594037927936 := by omega
      obtain ⟨c3, _⟩ := b1
      obtain ⟨c4, _⟩ := b2
      have d1 : 0 ≤ l.getD k 0 ∧ l.getD k 0 ≤ 255 := getD_in HB.out 0 (by omega) k
      have d2 : 0 ≤ l.getD k 255 ∧ l.getD k 255 ≤ 255 := getD_in HB.out 255 (by omega) k
      have HU : Hid (numB 0 l (k + 1) = u * 256 + l.getD k 0) := by rw [hu]; rfl
      have HV : Hid (numB 255 l (k + 1) = v * 256 + l.getD k 255) := by rw [hv]; rfl
      obtain ⟨x, hx⟩ : ∃ x, x = l.getD k 0 := ⟨_, rfl⟩
      obtain ⟨y, hy⟩ : ∃ y, y = l.getD k 255 := ⟨_, rfl⟩
      rw [← hx] at d1 HU
      rw [← hy] at d2 HV
      obtain ⟨d3, d4⟩ := d1
      obtain ⟨d5, d6⟩ := d2
      clear hu hv hp
      have s1 : bits .or .u64 (u * 256) x = u * 256 + x := bits_join .u64 64 (by decide) (fun n h0 h1 => IntWalk.u64_in n (by omega)) 8 _ _ (by omega) (by omega) (by omega) (by omega) (by omega) (by omega)
      have s2 : bits .or .u64 (v * 256) y = v * 256 + y := bits_join .u64 64 (by decide) (fun n h0 h1 => IntWalk.u64_in n (by omega)) 8 _ _ (by omega) (by omega) (by omega) (by omega) (by omega) (by omega)
      by_cases hkl : k < l.length
      · obtain ⟨gA, off, rfl, hgA, ca⟩ := u8s_at (HR.out.touch_no HT.out) k hkl
        have e1 : l[k] = x := by rw [hx, List.getD_eq_getElem?_getD, List.getElem?_eq_getElem hkl]; rfl
        have e2 : y = x := by rw [hx, hy, List.getD_eq_getElem?_getD, List.getD_eq_getElem?_getD, List.getElem?_eq_getElem hkl]; rfl
        subst e2
        rw [e1] at ca
        clear hx hy e1
        go_wp2_with fail
        go_quiet (fail)
        go_wp2_with fail
        go_roundw
        · exact ⟨k + 1, by omega, by go_num, by rw [HU.out], by rw [HV.out], HT.out.drewN _⟩
        · simp [intOf]; omega
      · have e1 : x = 0 := by rw [hx, List.getD_eq_getElem?_getD, List.getElem?_eq_none (by omega)]; rfl
        have e2 : y = 255 := by rw [hy, List.getD_eq_getElem?_getD, List.getElem?_eq_none (by omega)]; rfl
        subst e1
        subst e2
        clear hx hy
        go_wp2_with fail
        go_roundw
        · exact ⟨k + 1, by omega, by go_num, by rw [HU.out]; go_num, by rw [HV.out], HT.out⟩
        · simp [intOf]; omega
    · have hkm : k = m := by omega
      subst hkm
      go_wp2
      go_ret2
      exact ⟨rfl, HT.out⟩
theorem m_least_ (A : Option Addr) (l : List Int) (n cap : Nat) (hn : l.length = n) (m : Nat) (mi : Int) (hmi : (m : Int) = mi) (hm : m ≤ 8) (w : World) (hr : Rd w A (u8s l)) (hb : bytesIn l) (hl : l.length ≤ 4611686018427387904) :
    Calls Try.prog 80 #[.slice A n cap, .int .i64 mi] w fun e w' =>
      e = .returned (.tuple #[.int .u64 (numB 0 l m), .int .u64 (numB 255 l m)]) ∧ Touch NoS w w' := by
  subst hn
  subst hmi
  exact m_least A l cap m hm w hr hb hl
end Go.Proofs.Ytkhppojlabajaaa
