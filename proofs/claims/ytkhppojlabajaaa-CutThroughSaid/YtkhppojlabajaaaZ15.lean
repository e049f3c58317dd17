/- mask.Key; cut: Masked. -/
import Derived.Test.YtkhppojlabajaaaZ08
import Derived.Test.YtkhppojlabajaaaZ14
/- mask.Key; cut: Masked. -/
namespace Go.Proofs.Ytkhppojlabajaaa
open Go.RowKit
set_option linter.unusedSimpArgs false
set_option linter.unusedVariables false

set_option maxHeartbeats 1600000 in
set_option maxRecDepth 100000 in
theorem m_key (n : Int) (h0 : 0 ≤ n) (h1 : n ≤ 4294967295) (w : World) : Calls Try.prog 45 #[.int .u32 n] w fun e w' =>
    e = .returned (.agg #[.int .u8 (n / 16777216), .int .u8 (n / 65536 % 256), .int .u8 (n / 256 % 256), .int .u8 (n % 256)]) ∧ Touch NoS w w' := by
  go_enter Try.func45, Try.ntmps45
  go_wp2_with fail
  refine bodyPost_ret (v := .agg #[.int .u8 (n / 16777216), .int .u8 (n / 65536 % 256), .int .u8 (n / 256 % 256), .int .u8 (n % 256)]) (by simp [results, Try.results45, go_sem]) rfl ⟨rfl, (Touch.refl _ _).alloc _⟩

/-- A frame with a number's mask. -/
def mask1 (f : Fr) (d : Int) : Fr := ⟨f.fin, f.op, true, d / 16777216, d / 65536 % 256, d / 256 % 256, d % 256, f.data⟩
def maskAll (l : List Fr) (ds : List Int) : List Fr := List.zipWith mask1 l ds
/-- The first k of them masked. -/
def maskK (l : List Fr) (ds : List Int) (k : Nat) : List Fr := (maskAll l ds).take k ++ l.drop k
theorem maskAll_length (l : List Fr) (ds : List Int) (h : l.length ≤ ds.length) : (maskAll l ds).length = l.length := by
  unfold maskAll
  rw [List.length_zipWith]
  omega
theorem maskK_length (l : List Fr) (ds : List Int) (k : Nat) (h : l.length ≤ ds.length) (hk : k ≤ l.length) : (maskK l ds k).length = l.length := by
  unfold maskK
  rw [List.length_append, List.length_take, maskAll_length l ds h, List.length_drop]
  omega
theorem maskK_split (l : List Fr) (ds : List Int) (k : Nat) (h : l.length ≤ ds.length) (hk : k < l.length) : ∃ A B, A.length = k ∧ maskK l ds k = A ++ l[k] :: B ∧ maskK l ds (k + 1) = A ++ mask1 l[k] (ds[k]'(by omega)) :: B := by
  have hM := maskAll_length l ds h
  refine ⟨(maskAll l ds).take k, l.drop (k + 1), by rw [List.length_take, hM]; omega, ?_, ?_⟩
  · unfold maskK
    rw [List.drop_eq_getElem_cons hk]
  · unfold maskK
    have e : (maskAll l ds).take (k + 1) = (maskAll l ds).take k ++ [(maskAll l ds)[k]'(by omega)] := by simp
    rw [e, List.append_assoc]
    have e2 : (maskAll l ds)[k]'(by omega) = mask1 l[k] (ds[k]'(by omega)) := by unfold maskAll; rw [List.getElem_zipWith]
    rw [e2]
    rfl
theorem own_set8 {w : World} {base g c n z : Nat} {e : TypeId} {xs : List Value} (h : w.ownsRow base e z (.slice (some ⟨g, 0, none⟩) n c) n xs) (j : Nat) (u : Value) : (w.setCell ⟨g, j, none⟩ u).ownsRow base e z (.slice (some ⟨g, 0, none⟩) n c) n (xs.set j u) := by
  refine ⟨by rw [List.length_set]; exact h.1, ?_⟩
  rcases h.2 with ⟨hv, _⟩ | ⟨g', cap, cur, hv, hb, hg, hc, hm, hs, ht⟩
  · cases hv
  · injection hv with h1 _ h3
    injection h1 with h1
    injection h1 with h1
    subst h1
    subst h3
    refine .inr ⟨g, c, cur.setIfInBounds j u, rfl, hb, Blk.set_ (t := e) hg j u, hc, hm, by simpa using hs, ?_⟩
    rw [← ht]
    simp only [Array.toList_setIfInBounds, List.take_set]
theorem set_mid (A : List Fr) (c : List Value) (R : List Value) (j : Nat) (hj : j < c.length) (u : Value) : (frs A ++ (c ++ R)).set (A.length * 8 + j) u = frs A ++ (c.set j u ++ R) := by
  rw [List.set_append_right _ _ (by rw [frs_length]; omega), frs_length, show A.length * 8 + j - A.length * 8 = j from by omega, List.set_append_left _ _ hj]
theorem u32_at {w : World} {A : Option Addr} {l : List Int} (h : Rd w A (l.flatMap fun x => [.int .u32 x])) (k : Nat) (hk : k < l.length) : ∃ g off, A = some ⟨g, off, none⟩ ∧ g < w.heap.size ∧ w.cell? ⟨g, off + k, none⟩ = some (.int .u32 l[k]) := by
  have hf : (l.flatMap fun x => [Value.int .u32 x]) = l.map (Value.int .u32) := by rw [List.map_eq_flatMap]
  rw [hf] at h
  obtain ⟨g, off, hA, hg, hc⟩ := h (by intro he; simp at he; rw [he] at hk; simp at hk)
  exact ⟨g, off, hA, hg, hc k _ (by simp [hk])⟩

set_option maxHeartbeats 1600000 in
set_option maxRecDepth 100000 in
theorem k_masked_no (A : Option Addr) (n c : Nat) (B : Option Addr) (m c' : Nat) (h : m < n) (w : World) :
    Calls Try.prog 27 #[.slice A n c, .slice B m c'] w fun e w' => e = .returned (.tuple #[.slice none 0 0, .int .i64 130]) ∧ w = w' := by
  go_enter Try.func27, Try.ntmps27
  go_wp2
  go_ret2
  exact ⟨rfl, rfl⟩

set_option maxHeartbeats 6400000 in
set_option maxRecDepth 100000 in
theorem k_masked (A : Option Addr) (l : List Fr) (n c : Nat) (hn : l.length = n) (B : Option Addr) (ds : List Int) (m c' : Nat) (hm : ds.length = m) (h : n ≤ m) (w : World) (hr : Rd w A (frs l)) (hd : Rd w B (ds.flatMap fun x => [.int .u32 x])) (hdw : ∀ x ∈ ds, 0 ≤ x ∧ x ≤ 4294967295) (hnl : n ≤ 1000000) (hml : m ≤ maxLen) :
    Calls Try.prog 27 #[.slice A n c, .slice B m c'] w fun e w' => ∃ v, e = .returned (.tuple #[v, .int .i64 0]) ∧ w'.ownsRow w.heap.size 44 8 v n (frs (maskAll l ds)) ∧ Touch NoS w w' := by
  have HR := Lib.hid hr
  have HD := Lib.hid hd
  have HDW := Lib.hid hdw
  have HN := Lib.hid hn
  have HM := Lib.hid hm
  unfold maxLen at hml
  obtain ⟨i, hi, hz0, hz1, hz2⟩ := info_parts info_fr
  clear hr hd hdw hn hm
  go_enter Try.func27, Try.ntmps27
  go_wp2_with (at_builtin; refine wpList_app_row _ rfl (.const (.slice none 0 0)) (.tmp 13) 23 rfl w.heap.size 44 i _ 8 40 Try.underlying23 hi hz0 hz1 hz2 rfl (by decide) (.slice none 0 0) 0 [] rfl (own_nil _ _ _ _) A n c (frs l) rfl (by rw [frs_length, HN.out]) HR.out (frs_one l) (by unfold maxLen; omega) (by omega) (Nat.le_refl _) ?_)
  intro v2 w2 ho2 hgr _
  try simp only [Nat.zero_add, List.nil_append] at ho2
  obtain ⟨Av, cv, rfl, hcv1, _, _, _, _⟩ := own_cases ho2
  have HO2 := Lib.hid ho2
  have HT2 : Hid (Touch NoS w w2) := (Touch.refl NoS w).grown hgr (by intro k hk; simp [Value.ownBlock] at hk)
  clear ho2 hgr
  go_wp2_with fail
  go_loopw [17] (fun iv wr => ∃ k : Nat, k ≤ n ∧ iv = .int .i64 k ∧ wr.ownsRow w.heap.size 44 8 (.slice Av n cv) n (frs (maskK l ds k)) ∧ Touch NoS w wr) (fun iv _ => n - (intOf iv).toNat)
  case atStart => exact ⟨0, by omega, rfl, HO2.out, HT2.out⟩
  case round =>
    obtain ⟨k, hk, rfl, ho, ht⟩ := hrel
    by_cases hlt : k < n
    · have hk1 : k < l.length := by rw [HN.out]; exact hlt
      have hkd : k < ds.length := by rw [HM.out]; omega
      obtain ⟨L1, L2, hL1, hsp, hsp2⟩ := maskK_split l ds k (by rw [HN.out, HM.out]; exact h) hk1
      obtain ⟨g, c2, hv, _, hgb⟩ := own_out ho (by omega)
      injection hv with e1 _ e2
      subst e1 e2
      obtain ⟨cs, hb⟩ := own_type ho (show (Value.slice (some ⟨g, 0, none⟩) n cv).ownBlock = some g from rfl)
      obtain ⟨gB, oB, rfl, hgB, d0⟩ := u32_at (HD.out.touch_no ht) k hkd
      obtain ⟨hx0, hx1⟩ := HDW.out ds[k] (List.getElem_mem hkd)
      obtain ⟨x, hx⟩ : ∃ x, x = ds[k] := ⟨_, rfl⟩
      rw [← hx] at d0 hx0 hx1 hsp2
      obtain ⟨_, _, hv5, _, _, hrd5, _, _⟩ := own_cases ho
      injection hv5 with e5 _ e6
      subst e5 e6
      have hkm : k < (maskK l ds k).length := by rw [maskK_length l ds k (by rw [HN.out, HM.out]; exact h) (by omega)]; exact hk1
      obtain ⟨g5, o5, he5, _, a0, a1, a2, a3, a4, a5, a6, a7⟩ := fr_cells hrd5 k hkm
      injection he5 with he5
      injection he5 with q1 q2
      subst q1 q2
      obtain ⟨f0, hf0⟩ : ∃ f, f = (maskK l ds k)[k] := ⟨_, rfl⟩
      rw [← hf0] at a0 a1 a2 a3 a4 a5 a6 a7
      have HO := Lib.hid ho
      have HT := Lib.hid ht
      have HSP := Lib.hid hsp
      have HSP2 := Lib.hid hsp2
      have HL1 := Lib.hid hL1
      have HB := Lib.hid hb
      have HA2 := Lib.hid a2
      have HA3 := Lib.hid a3
      have HA4 := Lib.hid a4
      have HA5 := Lib.hid a5
      have HA6 := Lib.hid a6
      clear ho ht hsp hsp2 hL1 hb hx hrd5 HO2 HT2 hf0 a0 a1 a2 a3 a4 a5 a6 a7
      go_wp2_with fail
      refine (m_key x hx0 hx1 _).mono ?_
      rintro e w4 ⟨rfl, ht4⟩
      have hb4 := HB.out.touch ht4 (fun h => h)
      have a2 := ht4.cell HA2.out
      have a3 := ht4.cell HA3.out
      have a4 := ht4.cell HA4.out
      have a5 := ht4.cell HA5.out
      have a6 := ht4.cell HA6.out
      have glt := hb4.lt
      have f2 := hb4.frozen (0 + k * 8 + 2)
      have f3 := hb4.frozen (0 + k * 8 + 3)
      have f4 := hb4.frozen (0 + k * 8 + 4)
      have f5 := hb4.frozen (0 + k * 8 + 5)
      have f6 := hb4.frozen (0 + k * 8 + 6)
      simp only [Nat.zero_add] at a2 a3 a4 a5 a6 f2 f3 f4 f5 f6
      have HO4 := Lib.hid (own_no HO.out ht4)
      have HT4 := Lib.hid (HT.out.trans ht4)
      clear ht4 hb4 HB HO HT
      go_wp2_with fail
      go_roundw
      · refine ⟨k + 1, by omega, by go_num, ?_, ?_⟩
        · have h5 := own_set8 (own_set8 (own_set8 (own_set8 (own_set8 HO4.out (k * 8 + 2) (.bool true)) (k * 8 + 3) (.int .u8 (x / 16777216))) (k * 8 + 3 + 1) (.int .u8 (x / 65536 % 256))) (k * 8 + 3 + 2) (.int .u8 (x / 256 % 256))) (k * 8 + 3 + 3) (.int .u8 (x % 256))
          have e0 : frs (maskK l ds k) = frs L1 ++ (l[k].cl ++ frs L2) := by rw [HSP.out, frs_append]; rfl
          have e1 : frs (maskK l ds (k + 1)) = frs L1 ++ ((mask1 l[k] x).cl ++ frs L2) := by rw [HSP2.out, frs_append]; rfl
          have hset : ∀ (c R : List Value) (j : Nat) (u : Value), j < c.length → (frs L1 ++ (c ++ R)).set (k * 8 + j) u = frs L1 ++ (c.set j u ++ R) := fun c R j u hj => by rw [← HL1.out]; exact set_mid L1 c R j hj u
          have hx : (((((frs (maskK l ds k)).set (k * 8 + 2) (.bool true)).set (k * 8 + 3) (.int .u8 (x / 16777216))).set (k * 8 + 3 + 1) (.int .u8 (x / 65536 % 256))).set (k * 8 + 3 + 2) (.int .u8 (x / 256 % 256))).set (k * 8 + 3 + 3) (.int .u8 (x % 256)) = frs (maskK l ds (k + 1)) := by
            rw [e0, e1, hset _ _ 2 _ (by simp [Fr.cl]), hset _ _ 3 _ (by simp [Fr.cl]), show k * 8 + 3 + 1 = k * 8 + 4 from rfl, hset _ _ 4 _ (by simp [Fr.cl]), show k * 8 + 3 + 2 = k * 8 + 5 from rfl, hset _ _ 5 _ (by simp [Fr.cl]), show k * 8 + 3 + 3 = k * 8 + 6 from rfl, hset _ _ 6 _ (by simp [Fr.cl])]
            rfl
          rw [← hx]
          exact h5
        · exact ((((HT4.out.setNew (p := ⟨g, k * 8 + 2, none⟩) hgb _).setNew (p := ⟨g, k * 8 + 3, none⟩) hgb _).setNew (p := ⟨g, k * 8 + 3 + 1, none⟩) hgb _).setNew (p := ⟨g, k * 8 + 3 + 2, none⟩) hgb _).setNew (p := ⟨g, k * 8 + 3 + 3, none⟩) hgb _
      · simp [intOf]; omega
    · have hkn : k = n := by omega
      subst hkn
      have hfin : maskK l ds k = maskAll l ds := by
        unfold maskK
        rw [List.take_of_length_le (by rw [maskAll_length l ds (by rw [HN.out, HM.out]; exact h), HN.out]; exact Nat.le_refl _), List.drop_eq_nil_of_le (by rw [HN.out]; exact Nat.le_refl _), List.append_nil]
      rw [hfin] at ho
      have HO := Lib.hid ho
      have HT := Lib.hid ht
      clear ho ht HO2 HT2 hfin
      go_wp2
      go_ret2
      exact ⟨_, rfl, HO.out, HT.out⟩
end Go.Proofs.Ytkhppojlabajaaa
