/- mask: Put. | mask: least. -/
import Derived.Test.YtkhppojlabajaaaZ05
/- mask: Put. -/
namespace Go.Proofs.Ytkhppojlabajaaa
open Go.RowKit
set_option linter.unusedSimpArgs false
set_option linter.unusedVariables false

/-- A length's bytes. -/
def lenB (n : Nat) : List Int := if n < 126 then [(n : Int)] else if n < 65536 then 126 :: be 2 n else 127 :: be 8 n
theorem lenB_in (n : Nat) : bytesIn (lenB n) := by
  unfold lenB
  split
  · intro x hx; simp at hx; omega
  split
  · intro x hx; rcases List.mem_cons.1 hx with rfl | hx
    · omega
    · exact be_in _ _ x hx
  · intro x hx; rcases List.mem_cons.1 hx with rfl | hx
    · omega
    · exact be_in _ _ x hx
theorem lenB_length (n : Nat) : (lenB n).length = if n < 126 then 1 else if n < 65536 then 3 else 9 := by
  unfold lenB
  split
  · rfl
  split <;> simp [be_length]

set_option maxHeartbeats 1600000 in
set_option maxRecDepth 100000 in
theorem m_put (n : Nat) (hn : n < 9223372036854775808) (w : World) :
    Calls Try.prog 55 #[.int .u64 n] w fun e w' =>
      ∃ v, e = .returned (.tuple #[v, .int .i64 0]) ∧ w'.ownsRow w.heap.size 5 1 v (lenB n).length (u8s (lenB n)) ∧ Touch NoS w w' := by
  by_cases h1 : n < 126
  · have hl : lenB n = [(n : Int)] := by unfold lenB; rw [if_pos h1]
    rw [hl]
    clear hl
    go_enter Try.func55, Try.ntmps55
    go_wp2
    go_ret2
    exact ⟨_, rfl, own_blk (Blk.new w _ #[.int .u8 n]) rfl (Nat.le_refl _) (by simp [maxLen]), (Touch.refl _ _).alloc _⟩
  by_cases h2 : n < 65536
  · have hl : lenB n = 126 :: be 2 n := by unfold lenB; rw [if_neg h1, if_pos h2]
    rw [hl]
    obtain ⟨x, hx⟩ : ∃ x : Int, x = (n : Int) := ⟨_, rfl⟩
    have g1 : 126 ≤ x := by omega
    have g2 : x < 65536 := by omega
    have hn2 : n < 18446744073709551616 := by omega
    have HX := Lib.hid hx
    have HN := Lib.hid hn2
    rw [← hx]
    clear hl h1 h2 hn hx hn2
    go_enter Try.func55, Try.ntmps55
    go_wp2_with fail
    rw [HX.out]
    refine (m_number_ n 2 2 (by decide) HN.out (by omega) _).mono ?_
    rintro e w1 ⟨g, rfl, hg, hb, ht⟩
    have H0 : (w.alloc (.cells #[.int .u8 126] 5)).ownsRow w.heap.size 5 1 (.slice (some ⟨w.heap.size, 0, none⟩) 1 1) 1 [.int .u8 126] := own_blk (Blk.new w _ _) rfl (Nat.le_refl _) (by simp [maxLen])
    have H1 := Lib.hid (own_no H0 ht)
    have HB := Lib.hid hb
    have HT := Lib.hid (((Touch.refl NoS w).alloc (.cells #[.int .u8 126] 5)).trans ht)
    clear hb ht H0
    obtain ⟨i, hi, hz0, hz1, hz2⟩ := info_u8
    go_wp2_with (at_builtin; refine wpList_app_row _ rfl (.tmp 16) (.tmp 18) 36 rfl w.heap.size 5 i _ 1 1 Try.underlying36 hi hz0 hz1 hz2 rfl (by decide) _ 1 [.int .u8 126] rfl H1.out (some ⟨g, 0, none⟩) 2 2 (u8s (be 2 n)) rfl (by simp [u8s, be_length]) (fun _ => ⟨g, 0, rfl, HB.out.lt, fun j u hu => by rw [Nat.zero_add, HB.out.cell]; simpa using hu⟩) (u8s_one _) (by simp [maxLen]) (by omega) (by have := HT.out.size; omega) ?_)
    intro v' w' ho hgr _
    have HO := Lib.hid ho
    have HT2 := Lib.hid (HT.out.grown hgr (fun k hk hl => by simp [Value.ownBlock] at hk; omega))
    clear ho hgr hi hz0 hz1 hz2
    go_wp2
    go_ret2
    refine ⟨v', rfl, ?_, HT2.out⟩
    have := HO.out
    simpa [be_length, u8s] using this
  · have hl : lenB n = 127 :: be 8 n := by unfold lenB; rw [if_neg h1, if_neg h2]
    rw [hl]
    obtain ⟨x, hx⟩ : ∃ x : Int, x = (n : Int) := ⟨_, rfl⟩
    have g1 : 65536 ≤ x := by omega
    have g2 : x < 9223372036854775808 := by omega
    have hn2 : n < 18446744073709551616 := by omega
    have HX := Lib.hid hx
    have HN := Lib.hid hn2
    rw [← hx]
    clear hl h1 h2 hn hx hn2
    go_enter Try.func55, Try.ntmps55
    go_wp2_with fail
    rw [HX.out]
    refine (m_number_ n 8 8 (by decide) HN.out (by omega) _).mono ?_
    rintro e w1 ⟨g, rfl, hg, hb, ht⟩
    have H0 : (w.alloc (.cells #[.int .u8 127] 5)).ownsRow w.heap.size 5 1 (.slice (some ⟨w.heap.size, 0, none⟩) 1 1) 1 [.int .u8 127] := own_blk (Blk.new w _ _) rfl (Nat.le_refl _) (by simp [maxLen])
    have H1 := Lib.hid (own_no H0 ht)
    have HB := Lib.hid hb
    have HT := Lib.hid (((Touch.refl NoS w).alloc (.cells #[.int .u8 127] 5)).trans ht)
    clear hb ht H0
    obtain ⟨i, hi, hz0, hz1, hz2⟩ := info_u8
    go_wp2_with (at_builtin; refine wpList_app_row _ rfl (.tmp 20) (.tmp 22) 36 rfl w.heap.size 5 i _ 1 1 Try.underlying36 hi hz0 hz1 hz2 rfl (by decide) _ 1 [.int .u8 127] rfl H1.out (some ⟨g, 0, none⟩) 8 8 (u8s (be 8 n)) rfl (by simp [u8s, be_length]) (fun _ => ⟨g, 0, rfl, HB.out.lt, fun j u hu => by rw [Nat.zero_add, HB.out.cell]; simpa using hu⟩) (u8s_one _) (by simp [maxLen]) (by omega) (by have := HT.out.size; omega) ?_)
    intro v' w' ho hgr _
    have HO := Lib.hid ho
    have HT2 := Lib.hid (HT.out.grown hgr (fun k hk hl => by simp [Value.ownBlock] at hk; omega))
    clear ho hgr hi hz0 hz1 hz2
    go_wp2
    go_ret2
    refine ⟨v', rfl, ?_, HT2.out⟩
    have := HO.out
    simpa [be_length, u8s] using this
end Go.Proofs.Ytkhppojlabajaaa
/- mask: least. -/
namespace Go.Proofs.Ytkhppojlabajaaa
open Go.RowKit
set_option linter.unusedSimpArgs false
set_option linter.unusedVariables false

/-- The number that bytes begin, d at each place behind them. -/
def numB (d : Int) (l : List Int) : Nat → Int
  | 0 => 0
  | k + 1 => numB d l k * 256 + l.getD k d
theorem getD_in {l : List Int} (h : bytesIn l) (d : Int) (hd : 0 ≤ d ∧ d ≤ 255) (k : Nat) : 0 ≤ l.getD k d ∧ l.getD k d ≤ 255 := by
  rw [List.getD_eq_getElem?_getD]
  cases hk : l[k]? with
  | none => simpa using hd
  | some x => exact h x (List.mem_of_getElem? hk)
theorem numB_bound {l : List Int} (h : bytesIn l) (d : Int) (hd : 0 ≤ d ∧ d ≤ 255) : ∀ k, 0 ≤ numB d l k ∧ numB d l k < 256 ^ k := by
  intro k
  induction k with
  | zero => simp [numB]
  | succ k ih =>
    have := getD_in h d hd k
    simp only [numB, Int.pow_succ]
    omega

set_option maxHeartbeats 1600000 in
set_option maxRecDepth 100000 in
theorem m_least (A : Option Addr) (l : List Int) (cap : Nat) (m : Nat) (hm : m ≤ 8) (w : World) (hr : Rd w A (u8s l)) (hb : bytesIn l) (hl : l.length ≤ 4611686018427387904) :
    Calls Try.prog 80 #[.slice A l.length cap, .int .i64 m] w fun e w' =>
      e = .returned (.tuple #[.int .u64 (numB 0 l m), .int .u64 (numB 255 l m)]) ∧ Touch NoS w w' := by
  have HR := Lib.hid hr
  have HB := Lib.hid hb
  clear hr hb
  go_enter Try.func80, Try.ntmps80
  go_wp2_with fail
  go_loopw [12, 6, 7] (fun i a b wr => ∃ k : Nat, k ≤ m ∧ i = .int .i64 k ∧ a = .int .u64 (numB 0 l k) ∧ b = .int .u64 (numB 255 l k) ∧ Touch NoS w wr) (fun i _ _ _ => m - (intOf i).toNat)
  case atStart => exact ⟨0, by omega, rfl, rfl, rfl, Touch.refl _ _⟩
  case round =>
    obtain ⟨k, hk, rfl, rfl, rfl, ht⟩ := hrel
    have HT := Lib.hid ht
    clear ht
    by_cases hlt : k < m
    · have b1 := numB_bound HB.out 0 (by omega) k
      have b2 := numB_bound HB.out 255 (by omega) k
      have hp : (256 : Int) ^ k ≤ 72057594037927936 := by
        have : (256 : Nat) ^ k ≤ 256 ^ 7 := Nat.pow_le_pow_right (by omega) (by omega)
        have h2 : ((256 ^ k : Nat) : Int) ≤ ((256 ^ 7 : Nat) : Int) := by exact_mod_cast this
        simpa using h2
      obtain ⟨u, hu⟩ : ∃ u, u = numB 0 l k := ⟨_, rfl⟩
      obtain ⟨v, hv⟩ : ∃ v, v = numB 255 l k := ⟨_, rfl⟩
      rw [← hu] at b1
      rw [← hv] at b2
      rw [← hu, ← hv]
      have c1 : u < 72057594037927936 := by omega
      have c2 : v < 72057594037927936 := by omega
      obtain ⟨c3, _⟩ := b1
      obtain ⟨c4, _⟩ := b2
      have d1 : 0 ≤ l.getD k 0 ∧ l.getD k 0 ≤ 255 := getD_in HB.out 0 (by omega) k
      have d2 : 0 ≤ l.getD k 255 ∧ l.getD k 255 ≤ 255 := getD_in HB.out 255 (by omega) k
      have HU : Hid (numB 0 l (k + 1) = u * 256 + l.getD k 0) := by rw [hu]; rfl
      have HV : Hid (numB 255 l (k + 1) = v * 256 + l.getD k 255) := by rw [hv]; rfl
      obtain ⟨x, hx⟩ : ∃ x, x = l.getD k 0 := ⟨_, rfl⟩
      obtain ⟨y, hy⟩ : ∃ y, y = l.getD k 255 := ⟨_, rfl⟩
      rw [← hx] at d1 HU
      rw [← hy] at d2 HV
      obtain ⟨d3, d4⟩ := d1
      obtain ⟨d5, d6⟩ := d2
      clear hu hv hp
      have s1 : bits .or .u64 (u * 256) x = u * 256 + x := bits_join .u64 64 (by decide) (fun n h0 h1 => IntWalk.u64_in n (by omega)) 8 _ _ (by omega) (by omega) (by omega) (by omega) (by omega) (by omega)
      have s2 : bits .or .u64 (v * 256) y = v * 256 + y := bits_join .u64 64 (by decide) (fun n h0 h1 => IntWalk.u64_in n (by omega)) 8 _ _ (by omega) (by omega) (by omega) (by omega) (by omega) (by omega)
      by_cases hkl : k < l.length
      · obtain ⟨gA, off, rfl, hgA, ca⟩ := u8s_at (HR.out.touch_no HT.out) k hkl
        have e1 : l[k] = x := by rw [hx, List.getD_eq_getElem?_getD, List.getElem?_eq_getElem hkl]; rfl
        have e2 : y = x := by rw [hx, hy, List.getD_eq_getElem?_getD, List.getD_eq_getElem?_getD, List.getElem?_eq_getElem hkl]; rfl
        subst e2
        rw [e1] at ca
        clear hx hy e1
        go_wp2_with fail
        go_quiet (fail)
        go_wp2_with fail
        go_roundw
        · exact ⟨k + 1, by omega, by go_num, by rw [HU.out], by rw [HV.out], HT.out.drewN _⟩
        · simp [intOf]; omega
      · have e1 : x = 0 := by rw [hx, List.getD_eq_getElem?_getD, List.getElem?_eq_none (by omega)]; rfl
        have e2 : y = 255 := by rw [hy, List.getD_eq_getElem?_getD, List.getElem?_eq_none (by omega)]; rfl
        subst e1
        subst e2
        clear hx hy
        go_wp2_with fail
        go_roundw
        · exact ⟨k + 1, by omega, by go_num, by rw [HU.out]; go_num, by rw [HV.out], HT.out⟩
        · simp [intOf]; omega
    · have hkm : k = m := by omega
      subst hkm
      go_wp2
      go_ret2
      exact ⟨rfl, HT.out⟩
theorem m_least_ (A : Option Addr) (l : List Int) (n cap : Nat) (hn : l.length = n) (m : Nat) (mi : Int) (hmi : (m : Int) = mi) (hm : m ≤ 8) (w : World) (hr : Rd w A (u8s l)) (hb : bytesIn l) (hl : l.length ≤ 4611686018427387904) :
    Calls Try.prog 80 #[.slice A n cap, .int .i64 mi] w fun e w' =>
      e = .returned (.tuple #[.int .u64 (numB 0 l m), .int .u64 (numB 255 l m)]) ∧ Touch NoS w w' := by
  subst hn
  subst hmi
  exact m_least A l cap m hm w hr hb hl
end Go.Proofs.Ytkhppojlabajaaa
