/- frame: Get, in one. | Plain laws of frames: bytes of a length, masks, a frame's bytes. -/
import Derived.Test.YtpadlcllcmodaaaY15
/- frame: Get, in one. -/
namespace Go.Proofs.Ytpadlcllcmodaaa
open Go.RowKit
set_option linter.unusedSimpArgs false
set_option linter.unusedVariables false

theorem f_get (A : Option Addr) (l : List Int) (n cap : Nat) (hn : l.length = n) (most : Int) (hm : (Lit.int .i64 most).wf = true) (w : World) (hr : Rd w A (u8s l)) (hb : bytesIn l) (hl : n ≤ cap) (hc : cap ≤ maxLen) (hl2 : n ≤ 70368744177664) :
    Calls Try.prog 64 #[.slice A n cap, .int .i64 most] w fun e w' =>
      e = .returned (.tuple #[.agg (fget l most).1.cs, .int .i64 (fget l most).2.1, .int .i64 (fget l most).2.2]) ∧ Touch NoS w w' := by
  subst hn
  by_cases h0 : l = []
  · subst h0
    have hg : fget [] most = (Fr.zero, 0, 90) := rfl
    rw [hg]
    exact f_get_none A cap most w
  have hpos : 0 < l.length := by cases l with | nil => exact absurd rfl h0 | cons x t => simp
  obtain ⟨gA, off, rfl, hgA, ca⟩ := u8s_at hr 0 hpos
  have hx8 := getD_in hb 0 (by omega) 0
  have hxd : l[0] = l.getD 0 0 := by rw [List.getD_eq_getElem?_getD, List.getElem?_eq_getElem hpos]; rfl
  rw [hxd, Nat.add_zero] at ca
  unfold fget
  rw [if_neg h0]
  obtain ⟨x, hx⟩ : ∃ x, x = l.getD 0 0 := ⟨_, rfl⟩
  rw [← hx] at hx8 ca ⊢
  have hfin : (bits .and .u8 x 128 != 0) = decide (128 ≤ x) := by
    rw [and128 x hx8.1 hx8.2]
    by_cases h : 128 ≤ x
    · rw [if_pos h, decide_eq_true h]; rfl
    · rw [if_neg h, decide_eq_false h]; rfl
  have h1 : 1 < l.length → w.cell? ⟨gA, off + 1, none⟩ = some (.int .u8 (l.getD 1 0)) := fun h => by
    obtain ⟨g', off', he, _, hc'⟩ := u8s_at hr 1 h
    injection he with he
    injection he with h1 h2
    subst h1 h2
    rw [hc', List.getD_eq_getElem?_getD, List.getElem?_eq_getElem h]
    rfl
  have hv8 := getD_in hb 0 (by omega) 1
  by_cases hbad : x / 16 % 8 ≠ 0 ∨ known9 (x % 16) = false ∨ (control9 (x % 16) = true ∧ (x < 128 ∨ (1 < l.length ∧ 125 < l.getD 1 0 % 128)))
  · rw [if_pos hbad]
    refine f_get_bad gA off l.length cap hpos hl hc x (x % 16) _ (x / 16 % 8 * 16) (l.getD 1 0) (decide (128 ≤ x)) (control9 (x % 16)) (known9 (x % 16)) most w hgA ca h1 rfl hfin (and15 x hx8.1 hx8.2) (by omega) (by omega) (and112 x hx8.1 hx8.2) (and127 _ hv8.1 hv8.2) rfl rfl ?_
    rcases hbad with h | h | ⟨h, h2⟩
    · left; omega
    · exact .inr (.inl h)
    · refine .inr (.inr ⟨h, ?_⟩)
      rcases h2 with h2 | h2
      · left; exact decide_eq_false (by omega)
      · exact .inr h2
  · rw [if_neg hbad]
    have hz : bits .and .u8 x 112 = 0 := by
      rw [and112 x hx8.1 hx8.2]
      have : x / 16 % 8 = 0 := by
        rcases Decidable.em (x / 16 % 8 = 0) with h | h
        · exact h
        · exact absurd (.inl h) hbad
      omega
    have hk : known9 (x % 16) = true := by
      cases h : known9 (x % 16)
      · exact absurd (.inr (.inl h)) hbad
      · rfl
    have hok : control9 (x % 16) = true → decide (128 ≤ x) = true ∧ (1 < l.length → ¬ 125 < l.getD 1 0 % 128) := fun h => by
      refine ⟨decide_eq_true ?_, fun h1 h2 => hbad (.inr (.inr ⟨h, .inr ⟨h1, h2⟩⟩))⟩
      rcases Int.lt_or_le x 128 with h2 | h2
      · exact absurd (.inr (.inr ⟨h, .inl h2⟩)) hbad
      · exact h2
    by_cases hn1 : 1 < l.length
    · exact f_get_many gA off cap l w hr hb hn1 hl hc hl2 x (x % 16) _ (l.getD 1 0) (decide (128 ≤ x)) (control9 (x % 16)) most hm hgA ca (h1 hn1) rfl rfl hfin (and15 x hx8.1 hx8.2) (by omega) (by omega) hz hk rfl (fun h => ⟨(hok h).1, (hok h).2 hn1⟩)
    · have hl1 : l.length = 1 := by omega
      have hR : flen l most (decide (128 ≤ x)) (x % 16) = (Fr.zero, 0, 90) := by
        have : l.drop 1 = [] := List.eq_nil_of_length_eq_zero (by simp; omega)
        unfold flen
        rw [this]
        rfl
      rw [hR, hl1]
      exact f_get_one gA off cap (by omega) hc x (x % 16) _ (decide (128 ≤ x)) (control9 (x % 16)) most w hgA ca rfl hfin (and15 x hx8.1 hx8.2) (by omega) (by omega) hz hk rfl (fun h => (hok h).1)
end Go.Proofs.Ytpadlcllcmodaaa
/- Plain laws of frames: bytes of a length, masks, a frame's bytes. -/
namespace Go.Proofs.Ytpadlcllcmodaaa
open Go.RowKit
set_option linter.unusedSimpArgs false
set_option linter.unusedVariables false

theorem nums_sb (d : ByteArray) : Go.strOfNums (sb d) = d := sb_inj (sb_nums _ (sb_in d))
theorem bxor_bxor {a b : Int} (ha : 0 ≤ a ∧ a ≤ 255) (hb : 0 ≤ b ∧ b ≤ 255) : bxor (bxor a b) b = a := by
  unfold bxor
  rw [Int.toNat_natCast, Nat.xor_assoc, Nat.xor_self, Nat.xor_zero]
  omega
theorem turn_turn {K : List Int} (hK : bytesIn K) : ∀ (l : List Int) (p : Nat), bytesIn l → turn K p (turn K p l) = l := by
  intro l
  induction l with
  | nil => intro p h; rfl
  | cons b l ih =>
    intro p h
    simp only [turn]
    rw [bxor_bxor (h b (by simp)) (key_in hK _), ih (p + 1) (fun y hy => h y (by simp [hy]))]
theorem bxor_zero {a : Int} (ha : 0 ≤ a) : bxor a 0 = a := by
  unfold bxor
  simp
  omega
theorem turn_zero : ∀ (l : List Int) (p : Nat), bytesIn l → turn [0, 0, 0, 0] p l = l := by
  intro l
  induction l with
  | nil => intro p h; rfl
  | cons b l ih =>
    intro p h
    have hz : ([0, 0, 0, 0] : List Int).getD (p % 4) 0 = 0 := by
      have : p % 4 < 4 := Nat.mod_lt _ (by omega)
      rcases hp : p % 4 with _ | _ | _ | _ | j <;> first | rfl | omega
    simp only [turn]
    rw [hz, bxor_zero (h b (by simp)).1, ih (p + 1) (fun y hy => h y (by simp [hy]))]

theorem be_get (m n i : Nat) (h : i < m) (r : List Int) (d : Int) : (be m n ++ r).getD i d = ((n / 256 ^ (m - 1 - i) % 256 : Nat) : Int) := by
  rw [List.getD_eq_getElem?_getD, List.getElem?_append_left (by rw [be_length]; exact h)]
  simp [be, h]
theorem numB_be (m n : Nat) (hn : n < 256 ^ m) (r : List Int) (d : Int) : ∀ k, k ≤ m → numB d (be m n ++ r) k = ((n / 256 ^ (m - k) : Nat) : Int) := by
  intro k
  induction k with
  | zero => intro _; rw [Nat.sub_zero, Nat.div_eq_of_lt hn]; rfl
  | succ k ih =>
    intro hk
    simp only [numB]
    rw [ih (by omega), be_get m n k (by omega)]
    have h1 : 256 ^ (m - k) = 256 ^ (m - (k + 1)) * 256 := by rw [← Nat.pow_succ]; congr 1; omega
    rw [h1, ← Nat.div_div_eq_div_mul, show m - 1 - k = m - (k + 1) from by omega]
    generalize n / 256 ^ (m - (k + 1)) = q
    omega
theorem numB_be_all (m n : Nat) (hn : n < 256 ^ m) (d : Int) : numB d (be m n) m = n := by
  have := numB_be m n hn [] d m (Nat.le_refl _)
  rw [List.append_nil, Nat.sub_self, Nat.pow_zero, Nat.div_one] at this
  exact this

theorem getSize_be (size n : Nat) (b : Int) (r : List Int) (lo hi : Int) (hn : n < 256 ^ size) (h0 : lo ≤ n) (h1 : (n : Int) ≤ hi) : getSize (b :: (be size n ++ r)) size lo hi = ((n : Int), 1 + size, 0) := by
  have hw : ((b :: (be size n ++ r)).take (1 + size)).drop 1 = be size n := by
    rw [show 1 + size = size + 1 from by omega, List.take_succ_cons, List.drop_succ_cons, List.drop_zero, List.take_append_of_le_length (by rw [be_length]; omega), List.take_of_length_le (by rw [be_length]; omega)]
  unfold getSize
  rw [hw, numB_be_all size n hn, numB_be_all size n hn, if_neg (by omega), if_neg (by simp [be_length]; omega)]
/-- A length's bytes, the mask's bit set or not, are that length. -/
theorem getLen_lenB (n : Nat) (hn : n < 9223372036854775808) (m : Bool) (r : List Int) :
    getLen ((if m = true then (lenB n).set 0 ((lenB n).getD 0 0 + 128) else lenB n) ++ r) = ((n : Int), (lenB n).length, 0) := by
  unfold lenB
  by_cases h1 : n < 126
  · simp only [if_pos h1]
    cases m
    · simp only [Bool.false_eq_true, if_false, getLen, List.cons_append, List.nil_append, List.getD_cons_zero]
      rw [if_neg (by simp), if_neg (by omega), if_neg (by omega)]
      simp; omega
    · simp only [if_true, getLen, List.cons_append, List.nil_append, List.getD_cons_zero, List.set_cons_zero]
      rw [if_neg (by simp), if_neg (by omega), if_neg (by omega)]
      simp; omega
  by_cases h2 : n < 65536
  · simp only [if_neg h1, if_pos h2]
    cases m
    · simp only [Bool.false_eq_true, if_false, getLen, List.cons_append, List.getD_cons_zero]
      rw [if_neg (by simp), if_pos (by omega), getSize_be 2 n _ _ _ _ (by omega) (by omega) (by omega)]
      simp [be_length]
    · simp only [if_true, getLen, List.cons_append, List.getD_cons_zero, List.set_cons_zero]
      rw [if_neg (by simp), if_pos (by omega), getSize_be 2 n _ _ _ _ (by omega) (by omega) (by omega)]
      simp [be_length]
  · simp only [if_neg h1, if_neg h2]
    cases m
    · simp only [Bool.false_eq_true, if_false, getLen, List.cons_append, List.getD_cons_zero]
      rw [if_neg (by simp), if_neg (by omega), if_pos (by omega), getSize_be 8 n _ _ _ _ (by omega) (by omega) (by omega)]
      simp [be_length]
    · simp only [if_true, getLen, List.cons_append, List.getD_cons_zero, List.set_cons_zero]
      rw [if_neg (by simp), if_neg (by omega), if_pos (by omega), getSize_be 8 n _ _ _ _ (by omega) (by omega) (by omega)]
      simp [be_length]

theorem long9_length (f : Fr) : (long9 f).length = (lenB f.data.size).length := by unfold long9; split <;> simp
theorem long9_head (f : Fr) : ∃ x t, long9 f = x :: t ∧ x % 128 = (lenB f.data.size).getD 0 0 ∧ (128 ≤ x ↔ f.masked = true) := by
  obtain ⟨y, t, hy, h0, h1⟩ := lenB_head f.data.size
  unfold long9
  rw [hy]
  cases hm : f.masked
  · exact ⟨y, t, by simp, by simp; omega, by simp; omega⟩
  · exact ⟨y + 128, t, by simp, by simp; omega, by simp; omega⟩
theorem lenB_small (n : Nat) : (lenB n).getD 0 0 ≤ 125 ↔ n ≤ 125 := by
  unfold lenB
  split
  · simp; omega
  split
  · simp; omega
  · simp; omega
theorem form9_zero {f : Fr} (h : form9 f = true) (hm : f.masked = false) : f.key = [0, 0, 0, 0] := by
  unfold form9 at h
  rw [hm] at h
  simp at h
  exact h.2
theorem good_key {f : Fr} (h : f.good) : bytesIn f.key := h.2.1

/-- A frame's bytes, whatever stands behind, are this frame. -/
theorem fget_fput (f : Fr) (hf : f.good) (hc : form9 f = true) (r : List Int) (most : Int) : fget (fput f ++ r) most = if most < f.data.size then (Fr.zero, 0, 92) else (f, (fput f).length, 0) := by
  have hz : f.data.size ≤ 9223372036854775807 := hf.2.2
  have hk : known9 f.op = true ∧ (control9 f.op = true → f.fin = true ∧ f.data.size ≤ 125) := by
    have h := hc
    unfold form9 at h
    simp only [Bool.and_eq_true, Bool.not_eq_true'] at h
    refine ⟨h.1.1, fun hcn => ?_⟩
    have h2 := h.1.2
    rw [hcn] at h2
    simp at h2
    exact h2
  have hop : 0 ≤ f.op ∧ f.op ≤ 10 := by
    have := hk.1
    unfold known9 at this
    have := of_decide_eq_true this
    omega
  obtain ⟨x, t, hx, hx1, hx2⟩ := long9_head f
  have hl := long9_length f
  obtain ⟨T, hT⟩ : ∃ T, T = (if f.masked = true then f.key else []) ++ (if f.masked = true then turn f.key 0 (sb f.data) else sb f.data) := ⟨_, rfl⟩
  have hput : fput f ++ r = first9 f :: (long9 f ++ (T ++ r)) := by rw [hT]; simp [fput]
  have hlen : (fput f).length = 1 + (lenB f.data.size).length + T.length := by rw [hT]; simp [fput, long9_length]; omega
  rw [hput, hlen]
  have hG : getLen (long9 f ++ (T ++ r)) = ((f.data.size : Int), (lenB f.data.size).length, 0) := getLen_lenB f.data.size (by omega) f.masked (T ++ r)
  have hf0 : first9 f % 16 = f.op := by unfold first9; split <;> omega
  have hf1 : first9 f / 16 % 8 = 0 := by unfold first9; split <;> omega
  have hf2 : decide (128 ≤ first9 f) = f.fin := by
    unfold first9
    cases hfin : f.fin
    · simp; omega
    · simp; omega
  have h1 : (first9 f :: (long9 f ++ (T ++ r))).getD 1 0 = x := by rw [hx]; rfl
  have hbad : ¬ ((first9 f :: (long9 f ++ (T ++ r))).getD 0 0 / 16 % 8 ≠ 0 ∨ known9 ((first9 f :: (long9 f ++ (T ++ r))).getD 0 0 % 16) = false ∨ (control9 ((first9 f :: (long9 f ++ (T ++ r))).getD 0 0 % 16) = true ∧ ((first9 f :: (long9 f ++ (T ++ r))).getD 0 0 < 128 ∨ (1 < (first9 f :: (long9 f ++ (T ++ r))).length ∧ 125 < (first9 f :: (long9 f ++ (T ++ r))).getD 1 0 % 128)))) := by
    rw [h1, List.getD_cons_zero, hf0, hf1, hk.1, hx1]
    rintro (h | h | ⟨h, h2⟩)
    · exact h rfl
    · cases h
    · obtain ⟨h3, h4⟩ := hk.2 h
      rw [h3] at hf2
      have := of_decide_eq_true hf2
      rcases h2 with h2 | ⟨_, h2⟩
      · omega
      · have := (lenB_small f.data.size).2 h4
        omega
  unfold fget
  rw [if_neg (by simp), if_neg hbad, List.getD_cons_zero, hf0, hf2]
  unfold flen
  simp only [List.drop_succ_cons, List.drop_zero, hG]
  rw [if_neg (by omega), if_neg (by omega)]
  by_cases hm : most < f.data.size
  · rw [if_pos (.inr hm), if_pos hm]
  · rw [if_neg (by omega), if_neg hm]
    unfold fmask
    rw [h1]
    have hdrop : ∀ k, (first9 f :: (long9 f ++ (T ++ r))).drop (1 + (lenB f.data.size).length + k) = (T ++ r).drop k := by
      intro k
      rw [show 1 + (lenB f.data.size).length + k = ((lenB f.data.size).length + k) + 1 from by omega, List.drop_succ_cons, ← hl, ← List.drop_drop, List.drop_left]
    have hall : (first9 f :: (long9 f ++ (T ++ r))).length = 1 + (lenB f.data.size).length + (T.length + r.length) := by simp [hl]; omega
    cases hmm : f.masked
    · rw [if_neg (by rw [hx2, hmm]; simp)]
      have hT2 : T = sb f.data := by rw [hT, hmm]; simp
      have hTl : T.length = f.data.size := by rw [hT2, sb_length]
      unfold fdata
      rw [hall, if_neg (by omega), show (1 + (lenB f.data.size).length) = 1 + (lenB f.data.size).length + 0 from rfl, hdrop 0, List.drop_zero, Int.toNat_natCast, ← hTl, List.take_left, turn_zero _ _ (by rw [hT2]; exact sb_in _), hT2, nums_sb]
      have hkey := form9_zero hc hmm
      obtain ⟨fin, op, masked, k0, k1, k2, k3, d⟩ := f
      simp only [Fr.key, List.cons.injEq, and_true] at hkey hmm
      obtain ⟨rfl, rfl, rfl, rfl⟩ := hkey
      subst hmm
      simp
    · rw [if_pos (by rw [hx2, hmm])]
      have hT2 : T = f.key ++ turn f.key 0 (sb f.data) := by rw [hT, hmm]; simp
      have hTl : T.length = 4 + f.data.size := by rw [hT2]; simp [Fr.key, turn_length, sb_length]; omega
      rw [hall, if_neg (by omega), show (1 + (lenB f.data.size).length) = 1 + (lenB f.data.size).length + 0 from rfl, hdrop 0, List.drop_zero]
      have hk4 : (T ++ r).take 4 = f.key := by rw [hT2, List.append_assoc, List.take_append_of_le_length (by simp [Fr.key])]; rfl
      unfold fdata
      rw [hk4, Nat.add_zero, hall, if_neg (by omega), hdrop 4]
      have hd4 : (T ++ r).drop 4 = turn f.key 0 (sb f.data) ++ r := by rw [hT2, List.append_assoc]; rfl
      have htl : (turn f.key 0 (sb f.data)).length = f.data.size := by rw [turn_length, sb_length]
      rw [hd4, Int.toNat_natCast, List.take_append_of_le_length (by omega), List.take_of_length_le (by omega), turn_turn (good_key hf) _ _ (sb_in _), nums_sb]
      obtain ⟨fin, op, masked, k0, k1, k2, k3, d⟩ := f
      simp only at hmm
      subst hmm
      simp only [Fr.key, List.getD_cons_zero, List.getD_cons_succ, Prod.mk.injEq, true_and, and_true]
      simp only at hTl
      omega
end Go.Proofs.Ytpadlcllcmodaaa
