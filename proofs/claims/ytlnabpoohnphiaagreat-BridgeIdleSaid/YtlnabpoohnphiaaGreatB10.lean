/- frame: Get, in one. | Plain laws of frames: bytes of a length, masks, a frame's bytes. | Plain laws of frames: what is known of a beginning; the bytes of a frame that is got. -/
import Derived.Test.YtlnabpoohnphiaaGreatB09
/- frame: Get, in one. -/
namespace Go.Proofs.YtlnabpoohnphiaaGreat
open Go.RowKit
set_option linter.unusedSimpArgs false
set_option linter.unusedVariables false

theorem f_get (A : Option Addr) (l : List Int) (n cap : Nat) (hn : l.length = n) (most : Int) (hm : (Lit.int .i64 most).wf = true) (w : World) (hr : Rd w A (u8s l)) (hb : bytesIn l) (hl : n ≤ cap) (hc : cap ≤ maxLen) (hl2 : n ≤ 70368744177664) :
    Calls Tryz.prog 122 #[.slice A n cap, .int .i64 most] w fun e w' =>
      e = .returned (.tuple #[.agg (fget l most).1.cs, .int .i64 (fget l most).2.1, .int .i64 (fget l most).2.2]) ∧ Touch NoS w w' := by
  subst hn
  by_cases h0 : l = []
  · subst h0
    have hg : fget [] most = (Fr.zero, 0, 90) := rfl
    rw [hg]
    exact f_get_none A cap most w
  have hpos : 0 < l.length := by cases l with | nil => exact absurd rfl h0 | cons x t => simp
  obtain ⟨gA, off, rfl, hgA, ca⟩ := u8s_at hr 0 hpos
  have hx8 := getD_in hb 0 (by omega) 0
  have hxd : l[0] = l.getD 0 0 := by rw [List.getD_eq_getElem?_getD, List.getElem?_eq_getElem hpos]; rfl
  rw [hxd, Nat.add_zero] at ca
  unfold fget
  rw [if_neg h0]
  obtain ⟨x, hx⟩ : ∃ x, x = l.getD 0 0 := ⟨_, rfl⟩
  rw [← hx] at hx8 ca ⊢
  have hfin : (bits .and .u8 x 128 != 0) = decide (128 ≤ x) := by
    rw [and128 x hx8.1 hx8.2]
    by_cases h : 128 ≤ x
    · rw [if_pos h, decide_eq_true h]; rfl
    · rw [if_neg h, decide_eq_false h]; rfl
  have h1 : 1 < l.length → w.cell? ⟨gA, off + 1, none⟩ = some (.int .u8 (l.getD 1 0)) := fun h => by
    obtain ⟨g', off', he, _, hc'⟩ := u8s_at hr 1 h
    injection he with he
    injection he with h1 h2
    subst h1 h2
    rw [hc', List.getD_eq_getElem?_getD, List.getElem?_eq_getElem h]
    rfl
  have hv8 := getD_in hb 0 (by omega) 1
  by_cases hbad : x / 16 % 8 ≠ 0 ∨ known9 (x % 16) = false ∨ (control9 (x % 16) = true ∧ (x < 128 ∨ (1 < l.length ∧ 125 < l.getD 1 0 % 128)))
  · rw [if_pos hbad]
    refine f_get_bad gA off l.length cap hpos hl hc x (x % 16) _ (x / 16 % 8 * 16) (l.getD 1 0) (decide (128 ≤ x)) (control9 (x % 16)) (known9 (x % 16)) most w hgA ca h1 rfl hfin (and15 x hx8.1 hx8.2) (by omega) (by omega) (and112 x hx8.1 hx8.2) (and127 _ hv8.1 hv8.2) rfl rfl ?_
    rcases hbad with h | h | ⟨h, h2⟩
    · left; omega
    · exact .inr (.inl h)
    · refine .inr (.inr ⟨h, ?_⟩)
      rcases h2 with h2 | h2
      · left; exact decide_eq_false (by omega)
      · exact .inr h2
  · rw [if_neg hbad]
    have hz : bits .and .u8 x 112 = 0 := by
      rw [and112 x hx8.1 hx8.2]
      have : x / 16 % 8 = 0 := by
        rcases Decidable.em (x / 16 % 8 = 0) with h | h
        · exact h
        · exact absurd (.inl h) hbad
      omega
    have hk : known9 (x % 16) = true := by
      cases h : known9 (x % 16)
      · exact absurd (.inr (.inl h)) hbad
      · rfl
    have hok : control9 (x % 16) = true → decide (128 ≤ x) = true ∧ (1 < l.length → ¬ 125 < l.getD 1 0 % 128) := fun h => by
      refine ⟨decide_eq_true ?_, fun h1 h2 => hbad (.inr (.inr ⟨h, .inr ⟨h1, h2⟩⟩))⟩
      rcases Int.lt_or_le x 128 with h2 | h2
      · exact absurd (.inr (.inr ⟨h, .inl h2⟩)) hbad
      · exact h2
    by_cases hn1 : 1 < l.length
    · exact f_get_many gA off cap l w hr hb hn1 hl hc hl2 x (x % 16) _ (l.getD 1 0) (decide (128 ≤ x)) (control9 (x % 16)) most hm hgA ca (h1 hn1) rfl rfl hfin (and15 x hx8.1 hx8.2) (by omega) (by omega) hz hk rfl (fun h => ⟨(hok h).1, (hok h).2 hn1⟩)
    · have hl1 : l.length = 1 := by omega
      have hR : flen l most (decide (128 ≤ x)) (x % 16) = (Fr.zero, 0, 90) := by
        have : l.drop 1 = [] := List.eq_nil_of_length_eq_zero (by simp; omega)
        unfold flen
        rw [this]
        rfl
      rw [hR, hl1]
      exact f_get_one gA off cap (by omega) hc x (x % 16) _ (decide (128 ≤ x)) (control9 (x % 16)) most w hgA ca rfl hfin (and15 x hx8.1 hx8.2) (by omega) (by omega) hz hk rfl (fun h => (hok h).1)
end Go.Proofs.YtlnabpoohnphiaaGreat
/- Plain laws of frames: bytes of a length, masks, a frame's bytes. -/
namespace Go.Proofs.YtlnabpoohnphiaaGreat
open Go.RowKit
set_option linter.unusedSimpArgs false
set_option linter.unusedVariables false

theorem nums_sb (d : ByteArray) : Go.strOfNums (sb d) = d := sb_inj (sb_nums _ (sb_in d))
theorem bxor_bxor {a b : Int} (ha : 0 ≤ a ∧ a ≤ 255) (hb : 0 ≤ b ∧ b ≤ 255) : bxor (bxor a b) b = a := by
  unfold bxor
  rw [Int.toNat_natCast, Nat.xor_assoc, Nat.xor_self, Nat.xor_zero]
  omega
theorem turn_turn {K : List Int} (hK : bytesIn K) : ∀ (l : List Int) (p : Nat), bytesIn l → turn K p (turn K p l) = l := by
  intro l
  induction l with
  | nil => intro p h; rfl
  | cons b l ih =>
    intro p h
    simp only [turn]
    rw [bxor_bxor (h b (by simp)) (key_in hK _), ih (p + 1) (fun y hy => h y (by simp [hy]))]
theorem bxor_zero {a : Int} (ha : 0 ≤ a) : bxor a 0 = a := by
  unfold bxor
  simp
  omega
theorem turn_zero : ∀ (l : List Int) (p : Nat), bytesIn l → turn [0, 0, 0, 0] p l = l := by
  intro l
  induction l with
  | nil => intro p h; rfl
  | cons b l ih =>
    intro p h
    have hz : ([0, 0, 0, 0] : List Int).getD (p % 4) 0 = 0 := by
      have : p % 4 < 4 := Nat.mod_lt _ (by omega)
      rcases hp : p % 4 with _ | _ | _ | _ | j <;> first | rfl | omega
    simp only [turn]
    rw [hz, bxor_zero (h b (by simp)).1, ih (p + 1) (fun y hy => h y (by simp [hy]))]

theorem be_get (m n i : Nat) (h : i < m) (r : List Int) (d : Int) : (be m n ++ r).getD i d = ((n / 256 ^ (m - 1 - i) % 256 : Nat) : Int) := by
  rw [List.getD_eq_getElem?_getD, List.getElem?_append_left (by rw [be_length]; exact h)]
  simp [be, h]
theorem numB_be (m n : Nat) (hn : n < 256 ^ m) (r : List Int) (d : Int) : ∀ k, k ≤ m → numB d (be m n ++ r) k = ((n / 256 ^ (m - k) : Nat) : Int) := by
  intro k
  induction k with
  | zero => intro _; rw [Nat.sub_zero, Nat.div_eq_of_lt hn]; rfl
  | succ k ih =>
    intro hk
    simp only [numB]
    rw [ih (by omega), be_get m n k (by omega)]
    have h1 : 256 ^ (m - k) = 256 ^ (m - (k + 1)) * 256 := by rw [← Nat.pow_succ]; congr 1; omega
    rw [h1, ← Nat.div_div_eq_div_mul, show m - 1 - k = m - (k + 1) from by omega]
    generalize n / 256 ^ (m - (k + 1)) = q
    omega
theorem numB_be_all (m n : Nat) (hn : n < 256 ^ m) (d : Int) : numB d (be m n) m = n := by
  have := numB_be m n hn [] d m (Nat.le_refl _)
  rw [List.append_nil, Nat.sub_self, Nat.pow_zero, Nat.div_one] at this
  exact this

theorem getSize_be (size n : Nat) (b : Int) (r : List Int) (lo hi : Int) (hn : n < 256 ^ size) (h0 : lo ≤ n) (h1 : (n : Int) ≤ hi) : getSize (b :: (be size n ++ r)) size lo hi = ((n : Int), 1 + size, 0) := by
  have hw : ((b :: (be size n ++ r)).take (1 + size)).drop 1 = be size n := by
    rw [show 1 + size = size + 1 from by omega, List.take_succ_cons, List.drop_succ_cons, List.drop_zero, List.take_append_of_le_length (by rw [be_length]; omega), List.take_of_length_le (by rw [be_length]; omega)]
  unfold getSize
  rw [hw, numB_be_all size n hn, numB_be_all size n hn, if_neg (by omega), if_neg (by simp [be_length]; omega)]
/-- A length's bytes, the mask's bit set or not, are that length. -/
theorem getLen_lenB (n : Nat) (hn : n < 9223372036854775808) (m : Bool) (r : List Int) :
    getLen ((if m = true then (lenB n).set 0 ((lenB n).getD 0 0 + 128) else lenB n) ++ r) = ((n : Int), (lenB n).length, 0) := by
  unfold lenB
  by_cases h1 : n < 126
  · simp only [if_pos h1]
    cases m
    · simp only [Bool.false_eq_true, if_false, getLen, List.cons_append, List.nil_append, List.getD_cons_zero]
      rw [if_neg (by simp), if_neg (by omega), if_neg (by omega)]
      simp; omega
    · simp only [if_true, getLen, List.cons_append, List.nil_append, List.getD_cons_zero, List.set_cons_zero]
      rw [if_neg (by simp), if_neg (by omega), if_neg (by omega)]
      simp; omega
  by_cases h2 : n < 65536
  · simp only [if_neg h1, if_pos h2]
    cases m
    · simp only [Bool.false_eq_true, if_false, getLen, List.cons_append, List.getD_cons_zero]
      rw [if_neg (by simp), if_pos (by omega), getSize_be 2 n _ _ _ _ (by omega) (by omega) (by omega)]
      simp [be_length]
    · simp only [if_true, getLen, List.cons_append, List.getD_cons_zero, List.set_cons_zero]
      rw [if_neg (by simp), if_pos (by omega), getSize_be 2 n _ _ _ _ (by omega) (by omega) (by omega)]
      simp [be_length]
  · simp only [if_neg h1, if_neg h2]
    cases m
    · simp only [Bool.false_eq_true, if_false, getLen, List.cons_append, List.getD_cons_zero]
      rw [if_neg (by simp), if_neg (by omega), if_pos (by omega), getSize_be 8 n _ _ _ _ (by omega) (by omega) (by omega)]
      simp [be_length]
    · simp only [if_true, getLen, List.cons_append, List.getD_cons_zero, List.set_cons_zero]
      rw [if_neg (by simp), if_neg (by omega), if_pos (by omega), getSize_be 8 n _ _ _ _ (by omega) (by omega) (by omega)]
      simp [be_length]

theorem long9_length (f : Fr) : (long9 f).length = (lenB f.data.size).length := by unfold long9; split <;> simp
theorem long9_head (f : Fr) : ∃ x t, long9 f = x :: t ∧ x % 128 = (lenB f.data.size).getD 0 0 ∧ (128 ≤ x ↔ f.masked = true) := by
  obtain ⟨y, t, hy, h0, h1⟩ := lenB_head f.data.size
  unfold long9
  rw [hy]
  cases hm : f.masked
  · exact ⟨y, t, by simp, by simp; omega, by simp; omega⟩
  · exact ⟨y + 128, t, by simp, by simp; omega, by simp; omega⟩
theorem lenB_small (n : Nat) : (lenB n).getD 0 0 ≤ 125 ↔ n ≤ 125 := by
  unfold lenB
  split
  · simp; omega
  split
  · simp; omega
  · simp; omega
theorem form9_zero {f : Fr} (h : form9 f = true) (hm : f.masked = false) : f.key = [0, 0, 0, 0] := by
  unfold form9 at h
  rw [hm] at h
  simp at h
  exact h.2
theorem good_key {f : Fr} (h : f.good) : bytesIn f.key := h.2.1

/-- A frame's bytes, whatever stands behind, are this frame. -/
theorem fget_fput (f : Fr) (hf : f.good) (hc : form9 f = true) (r : List Int) (most : Int) : fget (fput f ++ r) most = if most < f.data.size then (Fr.zero, 0, 92) else (f, (fput f).length, 0) := by
  have hz : f.data.size ≤ 9223372036854775807 := hf.2.2
  have hk : known9 f.op = true ∧ (control9 f.op = true → f.fin = true ∧ f.data.size ≤ 125) := by
    have h := hc
    unfold form9 at h
    simp only [Bool.and_eq_true, Bool.not_eq_true'] at h
    refine ⟨h.1.1, fun hcn => ?_⟩
    have h2 := h.1.2
    rw [hcn] at h2
    simp at h2
    exact h2
  have hop : 0 ≤ f.op ∧ f.op ≤ 10 := by
    have := hk.1
    unfold known9 at this
    have := of_decide_eq_true this
    omega
  obtain ⟨x, t, hx, hx1, hx2⟩ := long9_head f
  have hl := long9_length f
  obtain ⟨T, hT⟩ : ∃ T, T = (if f.masked = true then f.key else []) ++ (if f.masked = true then turn f.key 0 (sb f.data) else sb f.data) := ⟨_, rfl⟩
  have hput : fput f ++ r = first9 f :: (long9 f ++ (T ++ r)) := by rw [hT]; simp [fput]
  have hlen : (fput f).length = 1 + (lenB f.data.size).length + T.length := by rw [hT]; simp [fput, long9_length]; omega
  rw [hput, hlen]
  have hG : getLen (long9 f ++ (T ++ r)) = ((f.data.size : Int), (lenB f.data.size).length, 0) := getLen_lenB f.data.size (by omega) f.masked (T ++ r)
  have hf0 : first9 f % 16 = f.op := by unfold first9; split <;> omega
  have hf1 : first9 f / 16 % 8 = 0 := by unfold first9; split <;> omega
  have hf2 : decide (128 ≤ first9 f) = f.fin := by
    unfold first9
    cases hfin : f.fin
    · simp; omega
    · simp; omega
  have h1 : (first9 f :: (long9 f ++ (T ++ r))).getD 1 0 = x := by rw [hx]; rfl
  have hbad : ¬ ((first9 f :: (long9 f ++ (T ++ r))).getD 0 0 / 16 % 8 ≠ 0 ∨ known9 ((first9 f :: (long9 f ++ (T ++ r))).getD 0 0 % 16) = false ∨ (control9 ((first9 f :: (long9 f ++ (T ++ r))).getD 0 0 % 16) = true ∧ ((first9 f :: (long9 f ++ (T ++ r))).getD 0 0 < 128 ∨ (1 < (first9 f :: (long9 f ++ (T ++ r))).length ∧ 125 < (first9 f :: (long9 f ++ (T ++ r))).getD 1 0 % 128)))) := by
    rw [h1, List.getD_cons_zero, hf0, hf1, hk.1, hx1]
    rintro (h | h | ⟨h, h2⟩)
    · exact h rfl
    · cases h
    · obtain ⟨h3, h4⟩ := hk.2 h
      rw [h3] at hf2
      have := of_decide_eq_true hf2
      rcases h2 with h2 | ⟨_, h2⟩
      · omega
      · have := (lenB_small f.data.size).2 h4
        omega
  unfold fget
  rw [if_neg (by simp), if_neg hbad, List.getD_cons_zero, hf0, hf2]
  unfold flen
  simp only [List.drop_succ_cons, List.drop_zero, hG]
  rw [if_neg (by omega), if_neg (by omega)]
  by_cases hm : most < f.data.size
  · rw [if_pos (.inr hm), if_pos hm]
  · rw [if_neg (by omega), if_neg hm]
    unfold fmask
    rw [h1]
    have hdrop : ∀ k, (first9 f :: (long9 f ++ (T ++ r))).drop (1 + (lenB f.data.size).length + k) = (T ++ r).drop k := by
      intro k
      rw [show 1 + (lenB f.data.size).length + k = ((lenB f.data.size).length + k) + 1 from by omega, List.drop_succ_cons, ← hl, ← List.drop_drop, List.drop_left]
    have hall : (first9 f :: (long9 f ++ (T ++ r))).length = 1 + (lenB f.data.size).length + (T.length + r.length) := by simp [hl]; omega
    cases hmm : f.masked
    · rw [if_neg (by rw [hx2, hmm]; simp)]
      have hT2 : T = sb f.data := by rw [hT, hmm]; simp
      have hTl : T.length = f.data.size := by rw [hT2, sb_length]
      unfold fdata
      rw [hall, if_neg (by omega), show (1 + (lenB f.data.size).length) = 1 + (lenB f.data.size).length + 0 from rfl, hdrop 0, List.drop_zero, Int.toNat_natCast, ← hTl, List.take_left, turn_zero _ _ (by rw [hT2]; exact sb_in _), hT2, nums_sb]
      have hkey := form9_zero hc hmm
      obtain ⟨fin, op, masked, k0, k1, k2, k3, d⟩ := f
      simp only [Fr.key, List.cons.injEq, and_true] at hkey hmm
      obtain ⟨rfl, rfl, rfl, rfl⟩ := hkey
      subst hmm
      simp
    · rw [if_pos (by rw [hx2, hmm])]
      have hT2 : T = f.key ++ turn f.key 0 (sb f.data) := by rw [hT, hmm]; simp
      have hTl : T.length = 4 + f.data.size := by rw [hT2]; simp [Fr.key, turn_length, sb_length]; omega
      rw [hall, if_neg (by omega), show (1 + (lenB f.data.size).length) = 1 + (lenB f.data.size).length + 0 from rfl, hdrop 0, List.drop_zero]
      have hk4 : (T ++ r).take 4 = f.key := by rw [hT2, List.append_assoc, List.take_append_of_le_length (by simp [Fr.key])]; rfl
      unfold fdata
      rw [hk4, Nat.add_zero, hall, if_neg (by omega), hdrop 4]
      have hd4 : (T ++ r).drop 4 = turn f.key 0 (sb f.data) ++ r := by rw [hT2, List.append_assoc]; rfl
      have htl : (turn f.key 0 (sb f.data)).length = f.data.size := by rw [turn_length, sb_length]
      rw [hd4, Int.toNat_natCast, List.take_append_of_le_length (by omega), List.take_of_length_le (by omega), turn_turn (good_key hf) _ _ (sb_in _), nums_sb]
      obtain ⟨fin, op, masked, k0, k1, k2, k3, d⟩ := f
      simp only at hmm
      subst hmm
      simp only [Fr.key, List.getD_cons_zero, List.getD_cons_succ, Prod.mk.injEq, true_and, and_true]
      simp only at hTl
      omega
end Go.Proofs.YtlnabpoohnphiaaGreat
/- Plain laws of frames: what is known of a beginning; the bytes of a frame that is got. -/
namespace Go.Proofs.YtlnabpoohnphiaaGreat
open Go.RowKit
set_option linter.unusedSimpArgs false
set_option linter.unusedVariables false

theorem getD_mono {l r : List Int} (h : bytesIn (l ++ r)) (k : Nat) : l.getD k 0 ≤ (l ++ r).getD k 0 ∧ (l ++ r).getD k 255 ≤ l.getD k 255 := by
  have h1 := getD_in h 0 (by omega) k
  have h2 := getD_in h 255 (by omega) k
  simp only [List.getD_eq_getElem?_getD] at h1 h2 ⊢
  by_cases hk : k < l.length
  · rw [List.getElem?_append_left hk]; exact ⟨Int.le_refl _, Int.le_refl _⟩
  · rw [List.getElem?_eq_none (l := l) (by omega)]
    exact ⟨h1.1, h2.2⟩
theorem numB_mono {l r : List Int} (h : bytesIn (l ++ r)) (k : Nat) : numB 0 l k ≤ numB 0 (l ++ r) k ∧ numB 255 (l ++ r) k ≤ numB 255 l k := by
  induction k with
  | zero => exact ⟨Int.le_refl _, Int.le_refl _⟩
  | succ k ih =>
    have := getD_mono h k
    simp only [numB]
    omega
theorem getSize_mono {b r : List Int} (hb : bytesIn (b ++ r)) (h0 : b ≠ []) (size : Nat) (lo hi : Int) (he : (getSize b size lo hi).2.2 ≠ 80) : getSize (b ++ r) size lo hi = getSize b size lo hi := by
  by_cases hl : b.length < 1 + size
  · have hpos : 1 ≤ b.length := by cases b with | nil => exact absurd rfl h0 | cons => simp
    have hw : (b.take (1 + size)).drop 1 = b.drop 1 := by rw [List.take_of_length_le (by omega)]
    have hw2 : ((b ++ r).take (1 + size)).drop 1 = b.drop 1 ++ r.take (1 + size - b.length) := by
      rw [List.take_append, List.take_of_length_le (by omega), List.drop_append_of_le_length hpos]
    have hin : bytesIn (b.drop 1 ++ r.take (1 + size - b.length)) := by
      intro x hx
      rcases List.mem_append.1 hx with h | h
      · exact hb x (List.mem_append.2 (.inl (List.mem_of_mem_drop h)))
      · exact hb x (List.mem_append.2 (.inr (List.mem_of_mem_take h)))
    have hm := numB_mono hin size
    unfold getSize at he ⊢
    rw [hw] at he ⊢
    rw [hw2]
    by_cases h1 : numB 255 (b.drop 1) size < lo ∨ hi < numB 0 (b.drop 1) size
    · rw [if_pos h1, if_pos (by omega)]
    · rw [if_neg h1, if_pos hl] at he
      exact absurd rfl he
  · have hw : ((b ++ r).take (1 + size)) = b.take (1 + size) := List.take_append_of_le_length (by omega)
    unfold getSize
    rw [hw, if_neg hl]
    by_cases h1 : numB 255 ((b.take (1 + size)).drop 1) size < lo ∨ hi < numB 0 ((b.take (1 + size)).drop 1) size
    · rw [if_pos h1, if_pos h1]
    · rw [if_neg h1, if_neg h1, if_neg (by rw [List.length_append]; omega)]
theorem getD0_append {b r : List Int} (h0 : b ≠ []) (d : Int) : (b ++ r).getD 0 d = b.getD 0 d := by
  cases b with
  | nil => exact absurd rfl h0
  | cons x t => rfl
theorem getLen_mono {b r : List Int} (hb : bytesIn (b ++ r)) (he : (getLen b).2.2 ≠ 80) : getLen (b ++ r) = getLen b := by
  by_cases h0 : b = []
  · subst h0; exact absurd rfl he
  · unfold getLen at he ⊢
    rw [if_neg h0] at he ⊢
    rw [if_neg (by simp [h0]), getD0_append h0]
    by_cases h1 : b.getD 0 0 % 128 = 126
    · rw [if_pos h1] at he ⊢
      rw [if_pos h1, getSize_mono hb h0 _ _ _ he]
    · rw [if_neg h1] at he ⊢
      rw [if_neg h1]
      by_cases h2 : b.getD 0 0 % 128 = 127
      · rw [if_pos h2] at he ⊢
        rw [if_pos h2, getSize_mono hb h0 _ _ _ he]
      · rw [if_neg h2, if_neg h2]
theorem fdata_mono {l r : List Int} (fin : Bool) (op : Int) (m : Bool) (K : List Int) (n : Int) (at_ : Nat) (hn : 0 ≤ n) (ha : at_ ≤ l.length) (he : (fdata l fin op m K n at_).2.2 ≠ 90) : fdata (l ++ r) fin op m K n at_ = fdata l fin op m K n at_ := by
  unfold fdata at he ⊢
  by_cases h : ((l.length - at_ : Nat) : Int) < n
  · rw [if_pos h] at he; exact absurd rfl he
  · rw [if_neg h, if_neg (by rw [List.length_append]; omega), List.drop_append_of_le_length ha, List.take_append_of_le_length (by rw [List.length_drop]; omega)]
theorem getD1_append {l : List Int} (r : List Int) (h : 1 < l.length) : (l ++ r).getD 1 0 = l.getD 1 0 := by
  rw [List.getD_eq_getElem?_getD, List.getD_eq_getElem?_getD, List.getElem?_append_left h]
/-- What is known of a beginning stays so. -/
theorem fget_mono {l r : List Int} (hb : bytesIn (l ++ r)) (most : Int) (he : (fget l most).2.2 ≠ 90) : fget (l ++ r) most = fget l most := by
  have hbl : bytesIn l := fun x hx => hb x (List.mem_append.2 (.inl hx))
  by_cases h0 : l = []
  · subst h0; exact absurd rfl he
  have hpos : 1 ≤ l.length := by cases l with | nil => exact absurd rfl h0 | cons => simp
  unfold fget at he ⊢
  rw [if_neg h0] at he ⊢
  rw [if_neg (by simp [h0]), getD0_append h0]
  by_cases hbad : l.getD 0 0 / 16 % 8 ≠ 0 ∨ known9 (l.getD 0 0 % 16) = false ∨ (control9 (l.getD 0 0 % 16) = true ∧ (l.getD 0 0 < 128 ∨ (1 < l.length ∧ 125 < l.getD 1 0 % 128)))
  · rw [if_pos hbad]
    rw [if_pos]
    rcases hbad with h | h | ⟨h, h2⟩
    · exact .inl h
    · exact .inr (.inl h)
    · refine .inr (.inr ⟨h, ?_⟩)
      rcases h2 with h2 | ⟨h2, h3⟩
      · exact .inl h2
      · exact .inr ⟨by rw [List.length_append]; omega, by rw [getD1_append r h2]; exact h3⟩
  · rw [if_neg hbad] at he ⊢
    unfold flen at he ⊢
    have hd : (l ++ r).drop 1 = l.drop 1 ++ r := List.drop_append_of_le_length hpos
    have hbd : bytesIn (l.drop 1 ++ r) := by rw [← hd]; exact hb.drop 1
    by_cases hG : (getLen (l.drop 1)).2.2 = 80
    · simp only at he
      rw [hG] at he
      exact absurd rfl he
    · have hm := getLen_mono hbd hG
      have hl1 : 1 < l.length := by
        rcases Nat.lt_or_ge 1 l.length with h | h
        · exact h
        · have : l.drop 1 = [] := List.eq_nil_of_length_eq_zero (by simp; omega)
          rw [this] at hG
          exact absurd rfl hG
      rw [if_neg (by
        rintro (h | h | ⟨h, h2⟩)
        · exact hbad (.inl h)
        · exact hbad (.inr (.inl h))
        · refine hbad (.inr (.inr ⟨h, ?_⟩))
          rcases h2 with h2 | ⟨h2, h3⟩
          · exact .inl h2
          · exact .inr ⟨hl1, by rw [getD1_append r hl1] at h3; exact h3⟩)]
      rw [hd, hm]
      simp only at he ⊢
      rcases getLen_cases (hbl.drop 1) with h | h | ⟨n, k, h, h1, h2, h3, h4, h5⟩
      · rw [h] at hG; exact absurd rfl hG
      · rw [h]; rfl
      · rw [h] at he ⊢
        simp only at he ⊢
        have e81 : ¬ ((0 : Int) = 81) := by decide
        have e0 : ¬ ((0 : Int) ≠ 0) := by decide
        simp only [if_neg e81, if_neg e0] at he ⊢
        rw [List.length_drop] at h5
        by_cases hmo : most < 0 ∨ most < n
        · rw [if_pos hmo, if_pos hmo]
        · rw [if_neg hmo] at he ⊢
          rw [if_neg hmo]
          unfold fmask at he ⊢
          rw [getD1_append r hl1]
          by_cases hv : 128 ≤ l.getD 1 0
          · rw [if_pos hv] at he ⊢
            rw [if_pos hv]
            by_cases hs : l.length < 1 + k + 4
            · rw [if_pos hs] at he; exact absurd rfl he
            · rw [if_neg hs] at he ⊢
              rw [if_neg (by rw [List.length_append]; omega)]
              have hk4 : ((l ++ r).drop (1 + k)).take 4 = (l.drop (1 + k)).take 4 := by
                rw [List.drop_append_of_le_length (by omega), List.take_append_of_le_length (by rw [List.length_drop]; omega)]
              rw [hk4]
              exact fdata_mono _ _ _ _ _ _ h1 (by omega) he
          · rw [if_neg hv] at he ⊢
            rw [if_neg hv]
            exact fdata_mono _ _ _ _ _ _ h1 (by omega) he

theorem numB_div {l : List Int} (h : bytesIn l) (d : Int) (hd : 0 ≤ d ∧ d ≤ 255) (m : Nat) : ∀ j, j ≤ m → numB d l m / 256 ^ j = numB d l (m - j) := by
  intro j
  induction j with
  | zero => intro _; simp
  | succ j ih =>
    intro hj
    have h1 := ih (by omega)
    have h2 : m - j = (m - (j + 1)) + 1 := by omega
    have h3 := getD_in h d hd (m - (j + 1))
    rw [Int.pow_succ, ← Int.ediv_ediv_of_nonneg (by exact Int.pow_nonneg (by omega)), h1, h2]
    simp only [numB]
    omega
theorem be_numB {l : List Int} (h : bytesIn l) (d : Int) (hd : 0 ≤ d ∧ d ≤ 255) (m : Nat) (hm : m ≤ l.length) : be m (numB d l m).toNat = l.take m := by
  apply List.ext_getElem
  · rw [be_length, List.length_take]; omega
  · intro i h1 h2
    rw [be_length] at h1
    have hb := numB_bound h d hd m
    simp only [be, List.getElem_map, List.getElem_range, List.getElem_take]
    have h3 := numB_div h d hd m (m - 1 - i) (by omega)
    have h4 : m - (m - 1 - i) = i + 1 := by omega
    rw [h4] at h3
    simp only [numB] at h3
    have h5 := getD_in h d hd i
    have h6 : l.getD i d = l[i] := by rw [List.getD_eq_getElem?_getD, List.getElem?_eq_getElem (by omega)]; rfl
    rw [h6] at h3 h5
    have h7 : (((numB d l m).toNat / 256 ^ (m - 1 - i) : Nat) : Int) = numB d l m / 256 ^ (m - 1 - i) := by
      rw [Int.natCast_ediv]
      rw [show (((numB d l m).toNat : Nat) : Int) = numB d l m from by omega]
      congr 1
      try simp
    rw [Int.natCast_emod, h7, h3]
    omega
theorem take_drop_one (b : List Int) (size : Nat) (x : Int) (t : List Int) (hb : b = x :: t) : (b.take (1 + size)).drop 1 = t.take size := by
  subst hb
  rw [show 1 + size = size + 1 from by omega, List.take_succ_cons, List.drop_succ_cons, List.drop_zero]
/-- The bytes of a length that is got. -/
theorem getLen_back {b : List Int} (hb : bytesIn b) {n : Int} {k : Nat} (h : getLen b = (n, k, 0)) :
    0 ≤ n ∧ n ≤ 9223372036854775807 ∧ k = (lenB n.toNat).length ∧ k ≤ b.length ∧ b.take k = (if 128 ≤ b.getD 0 0 then (lenB n.toNat).set 0 ((lenB n.toNat).getD 0 0 + 128) else lenB n.toNat) := by
  rcases getLen_cases hb with h' | h' | ⟨n', k', h', h1, h2, h3, h4, h5⟩
  · rw [h'] at h; injection h with h _; injection ‹_› with _ h; cases h
  · rw [h'] at h; injection h with h _; injection ‹_› with _ h; cases h
  rw [h] at h'
  injection h' with ha hb'
  injection hb' with hb' _
  subst ha hb'
  refine ⟨h1, h2, ?_⟩
  unfold getLen at h
  rcases b with _ | ⟨x, t⟩
  · simp at h
  have hx := hb x (by simp)
  have ht : bytesIn t := fun y hy => hb y (by simp [hy])
  rw [if_neg (by simp), List.getD_cons_zero] at h
  rw [List.getD_cons_zero]
  have hsz : ∀ (size : Nat) (lo hi : Int), getSize (x :: t) size lo hi = (n, k, 0) → numB 0 (t.take size) size = n ∧ lo ≤ numB 255 (t.take size) size ∧ n ≤ hi ∧ k = 1 + size ∧ size ≤ t.length := by
    intro size lo hi hg
    unfold getSize at hg
    rw [take_drop_one _ size x t rfl] at hg
    split at hg
    · injection hg with h _; injection ‹_› with _ h; cases h
    · rename_i hno
      split at hg
      · injection hg with h _; injection ‹_› with _ h; cases h
      · rename_i hno2
        injection hg with hg1 hg2
        injection hg2 with hg2 _
        simp at hno2
        exact ⟨hg1, by omega, by omega, by omega, by omega⟩
  have heq : ∀ size, size ≤ t.length → numB 255 (t.take size) size = numB 0 (t.take size) size := by
    intro size hs
    have : ∀ j, j ≤ size → numB 255 (t.take size) j = numB 0 (t.take size) j := by
      intro j
      induction j with
      | zero => intro _; rfl
      | succ j ih =>
        intro hj
        simp only [numB]
        rw [ih (by omega), List.getD_eq_getElem?_getD, List.getD_eq_getElem?_getD, List.getElem?_eq_getElem (by rw [List.length_take]; omega)]
        rfl
    exact this size (Nat.le_refl _)
  have hbe : ∀ size, size ≤ t.length → be size (numB 0 (t.take size) size).toNat = t.take size := by
    intro size hs
    rw [be_numB (ht.take size) 0 (by omega) size (by rw [List.length_take]; omega), List.take_of_length_le (by rw [List.length_take]; omega)]
  by_cases h26 : x % 128 = 126
  · rw [if_pos h26] at h
    obtain ⟨g1, g2, g3, g4, g5⟩ := hsz _ _ _ h
    rw [heq _ g5, g1] at g2
    have hB : lenB n.toNat = 126 :: t.take 2 := by
      unfold lenB
      rw [if_neg (by omega), if_pos (by omega), ← hbe 2 g5, g1]
    rw [hB]
    refine ⟨by rw [g4]; simp; omega, by rw [g4]; simp; omega, ?_⟩
    rw [g4, show 1 + 2 = 2 + 1 from rfl, List.take_succ_cons]
    by_cases h128 : 128 ≤ x
    · rw [if_pos h128]; simp; omega
    · rw [if_neg h128]; simp; omega
  · rw [if_neg h26] at h
    by_cases h27 : x % 128 = 127
    · rw [if_pos h27] at h
      obtain ⟨g1, g2, g3, g4, g5⟩ := hsz _ _ _ h
      rw [heq _ g5, g1] at g2
      have hB : lenB n.toNat = 127 :: t.take 8 := by
        unfold lenB
        rw [if_neg (by omega), if_neg (by omega), ← hbe 8 g5, g1]
      rw [hB]
      refine ⟨by rw [g4]; simp; omega, by rw [g4]; simp; omega, ?_⟩
      rw [g4, show 1 + 8 = 8 + 1 from rfl, List.take_succ_cons]
      by_cases h128 : 128 ≤ x
      · rw [if_pos h128]; simp; omega
      · rw [if_neg h128]; simp; omega
    · rw [if_neg h27] at h
      injection h with g1 g2
      injection g2 with g2 _
      have hB : lenB n.toNat = [n] := by
        unfold lenB
        rw [if_pos (by omega), show ((n.toNat : Nat) : Int) = n from by omega]
      rw [hB, ← g2]
      refine ⟨rfl, by simp, ?_⟩
      rw [List.take_succ_cons, List.take_zero]
      by_cases h128 : 128 ≤ x
      · rw [if_pos h128]; simp; omega
      · rw [if_neg h128]; simp; omega
end Go.Proofs.YtlnabpoohnphiaaGreat
