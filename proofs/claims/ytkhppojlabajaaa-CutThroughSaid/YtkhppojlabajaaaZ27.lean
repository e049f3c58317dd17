/- ref13: Join. | law13: awake. | Slice expressions of rows that came in: the new address under a name. -/
import Derived.Test.YtkhppojlabajaaaZ26
import Derived.Test.YtkhppojlabajaaaZ10
import Derived.Test.YtkhppojlabajaaaZ15
import Derived.Test.YtkhppojlabajaaaZ24
import Derived.Test.YtkhppojlabajaaaZ23
import Derived.Test.YtkhppojlabajaaaZ03
/- ref13: Join. -/
namespace Go.Proofs.Ytkhppojlabajaaa
open Go.RowKit
set_option linter.unusedSimpArgs false
set_option linter.unusedVariables false

set_option maxHeartbeats 6400000 in
set_option maxRecDepth 100000 in
theorem r13_join (A : Option Addr) (l : List Fr) (n c : Nat) (hn : l.length = n) (w : World) (hr : Rd w A (frs l)) (hz : ∀ f ∈ l, f.data.size ≤ 100000) (hl : n ≤ 1000) :
    Calls Try.prog 24 #[.slice A n c] w fun e w' => ((joins l ∧ e = .returned (.tuple #[.int .i64 (jop l), .string (dstr l), .bool true])) ∨ (¬ joins l ∧ e = .returned (.tuple #[.int .i64 0, .string ⟨#[]⟩, .bool false]))) ∧ Touch NoS w w' := by
  have HR := Lib.hid hr
  have HZ := Lib.hid hz
  have HN := Lib.hid hn
  obtain ⟨op, hop'⟩ : ∃ op, op = jop l := ⟨_, rfl⟩
  have HOP := Lib.hid hop'
  rw [← hop']
  clear hr hz hn hop'
  go_enter Try.func24, Try.ntmps24
  go_wp2_with fail
  go_loopw [5, 6] (fun sv iv wr => ∃ k : Nat, k ≤ n ∧ iv = .int .i64 k ∧ Hid (∀ i (h : i < l.length), i < k → jok n i l[i] = true) ∧ sv = .string (dstr (l.take k)) ∧ Touch NoS w wr) (fun _ iv _ => n - (intOf iv).toNat)
  case atStart => exact ⟨0, by omega, rfl, fun i _ h => absurd h (by omega), rfl, Touch.refl _ _⟩
  case round =>
    obtain ⟨k, hk, rfl, he, rfl, ht⟩ := hrel
    have HE := Lib.hid he.out
    have HT := Lib.hid ht
    clear he
    have hdl := dlist_size (l.take k) 100000 (fun f hf => HZ.out f (List.mem_of_mem_take hf))
    rw [List.length_take, HN.out, Nat.min_eq_left (by omega)] at hdl
    have hds : (dstr (l.take k)).size ≤ 100000000 := by rw [dstr_size]; omega
    by_cases hlt : k < n
    · have hk1 : k < l.length := by rw [HN.out]; exact hlt
      obtain ⟨g, off, rfl, hg, a0, a1, a2, a3, a4, a5, a6, a7⟩ := fr_cells (HR.out.touch_no ht) k hk1
      have hzi := HZ.out l[k] (List.getElem_mem hk1)
      have b1 : ((k : Int) + 1 == (n : Int)) = decide (k + 1 = n) := by
        by_cases h : k + 1 = n
        · rw [decide_eq_true h, beq_iff_eq]; omega
        · rw [decide_eq_false h, beq_eq_false_iff_ne]; omega
      by_cases hj : jok n k l[k] = true
      · have hnx := dstr_take l k hk1
        obtain ⟨E, hE⟩ : ∃ E, E = dstr (l.take k) := ⟨_, rfl⟩
        rw [← hE] at hnx hds ⊢
        have HE1 : Hid (∀ i (h : i < l.length), i < k + 1 → jok n i l[i] = true) := fun i h hi => by
          by_cases hik : i = k
          · subst hik; exact hj
          · exact HE.out i h (by omega)
        obtain ⟨f, hf⟩ : ∃ f, f = l[k] := ⟨_, rfl⟩
        rw [← hf] at a0 a1 a2 a3 a4 a5 a6 a7 hj hnx hzi
        have HNX := Lib.hid hnx
        have hcs : (((k : Int) == 0) = true ∧ f.op = 1 ∧ f.fin = decide (k + 1 = n)) ∨ (((k : Int) == 0) = true ∧ f.op = 2 ∧ f.fin = decide (k + 1 = n)) ∨ (((k : Int) == 0) = false ∧ f.op = 0 ∧ f.fin = decide (k + 1 = n)) := by
          rcases k with _ | q
          · obtain ⟨h1 | h1, h2⟩ := jok_first hj
            · exact .inl ⟨rfl, h1, h2⟩
            · exact .inr (.inl ⟨rfl, h1, h2⟩)
          · obtain ⟨h1, h2⟩ := jok_more hj
            exact .inr (.inr ⟨by rw [beq_eq_false_iff_ne]; omega, h1, h2⟩)
        obtain ⟨fin, o, masked, k0, k1, k2, k3, d⟩ := f
        obtain ⟨b, hb'⟩ : ∃ b, b = decide (k + 1 = n) := ⟨_, rfl⟩
        rw [← hb'] at b1 hcs
        have b3 : (b != b) = false := by cases b <;> rfl
        simp only [Fr.cs] at *
        have i1 : (E.size : Int) ≤ 100000000 := by omega
        have i2 : (d.size : Int) ≤ 100000 := by omega
        clear ht hf hj hk1 hb' hdl hzi hds hnx hE
        rcases hcs with ⟨q0, rfl, rfl⟩ | ⟨q0, rfl, rfl⟩ | ⟨q0, rfl, rfl⟩
        all_goals
          first
            | have hpk : ¬ 0 < k := (by rw [beq_iff_eq] at q0; omega)
            | have hpk : 0 < k := (by rw [beq_eq_false_iff_ne] at q0; omega)
          go_wp2_with fail
          go_roundw
          · exact ⟨k + 1, by omega, by go_num, HE1, by rw [HNX.out], HT.out⟩
          · simp [intOf]; omega
      · have hjf : jok n k l[k] = false := by simpa using hj
        have HNJ : Hid (¬ joins l) := fun h => by
          have := h.2 k hk1
          rw [HN.out, hjf] at this
          cases this
        obtain ⟨E, hE⟩ : ∃ E, E = dstr (l.take k) := ⟨_, rfl⟩
        rw [← hE]
        obtain ⟨f, hf⟩ : ∃ f, f = l[k] := ⟨_, rfl⟩
        rw [← hf] at a0 a1 a2 a3 a4 a5 a6 a7 hjf hzi
        have hcs : (((k : Int) == 0) = true ∧ ((f.op != 1) = true ∧ (f.op != 2) = true)) ∨ (((k : Int) == 0) = true ∧ f.op = 1 ∧ f.fin = !decide (k + 1 = n)) ∨ (((k : Int) == 0) = true ∧ f.op = 2 ∧ f.fin = !decide (k + 1 = n)) ∨ (((k : Int) == 0) = false ∧ (f.op != 0) = true) ∨ (((k : Int) == 0) = false ∧ f.op = 0 ∧ f.fin = !decide (k + 1 = n)) := by
          rcases k with _ | q
          · rcases jok_bad0 hjf with ⟨h1, h2⟩ | ⟨h1 | h1, h2⟩
            · exact .inl ⟨rfl, bne_iff_ne.2 h1, bne_iff_ne.2 h2⟩
            · exact .inr (.inl ⟨rfl, h1, h2⟩)
            · exact .inr (.inr (.inl ⟨rfl, h1, h2⟩))
          · have h0 : (((q + 1 : Nat) : Int) == 0) = false := by rw [beq_eq_false_iff_ne]; omega
            rcases jok_bad1 hjf with h1 | ⟨h1, h2⟩
            · exact .inr (.inr (.inr (.inl ⟨h0, by rw [bne_iff_ne]; exact h1⟩)))
            · exact .inr (.inr (.inr (.inr ⟨h0, h1, h2⟩)))
        obtain ⟨fin, o, masked, k0, k1, k2, k3, d⟩ := f
        obtain ⟨b, hb'⟩ : ∃ b, b = decide (k + 1 = n) := ⟨_, rfl⟩
        rw [← hb'] at b1 hcs
        simp only [Fr.cs] at *
        clear ht hf hj hjf hk1 hb' hdl hzi hds hE
        rcases hcs with ⟨q0, q1, q2⟩ | ⟨q0, rfl, rfl⟩ | ⟨q0, rfl, rfl⟩ | ⟨q0, q1⟩ | ⟨q0, rfl, rfl⟩
        all_goals
          cases b
        all_goals
          try simp only [Bool.not_true, Bool.not_false] at a0
          first
            | have hpk : ¬ 0 < k := (by rw [beq_iff_eq] at q0; omega)
            | have hpk : 0 < k := (by rw [beq_eq_false_iff_ne] at q0; omega)
          go_wp2
          refine bodyPost_ret (v := .tuple #[.int .i64 0, .string ⟨#[]⟩, .bool false]) (by simp [results, Try.results24, go_sem]) rfl ⟨.inr ⟨HNJ.out, rfl⟩, HT.out⟩
    · have hkn : k = n := by omega
      subst hkn
      have htk : l.take k = l := List.take_of_length_le (by rw [HN.out]; exact Nat.le_refl _)
      rw [htk]
      clear hdl hds
      by_cases hk0 : k = 0
      · subst hk0
        have hnil : l = [] := List.eq_nil_of_length_eq_zero HN.out
        have HNJ : Hid (¬ joins l) := fun h => h.1 hnil
        clear ht hnil
        go_wp2
        refine bodyPost_ret (v := .tuple #[.int .i64 0, .string ⟨#[]⟩, .bool false]) (by simp [results, Try.results24, go_sem]) rfl ⟨.inr ⟨HNJ.out, rfl⟩, HT.out⟩
      · have h0 : 0 < l.length := by rw [HN.out]; omega
        have HJ : Hid (joins l) := ⟨fun h => by rw [h] at h0; simp at h0, fun i hi => by rw [HN.out]; exact HE.out i hi (by rw [← HN.out]; exact hi)⟩
        obtain ⟨g0, off0, rfl, hg0, _, c1, _⟩ := fr_cells HR.out 0 h0
        have hop : l[0].op = jop l := by
          cases l with
          | nil => simp at h0
          | cons f r => rfl
        rw [hop, ← HOP.out] at c1
        simp only [Nat.zero_mul, Nat.add_zero] at c1
        have a1 := ht.cell c1
        have hgr : g0 < wr.heap.size := Nat.lt_of_lt_of_le hg0 ht.size
        have hk1 : 0 < k := by omega
        clear ht hop hk0 c1
        go_wp2
        refine bodyPost_ret (v := .tuple #[.int .i64 op, .string (dstr l), .bool true]) (by simp [results, Try.results24, go_sem]) rfl ⟨.inl ⟨HJ.out, rfl⟩, HT.out⟩
end Go.Proofs.Ytkhppojlabajaaa
/- law13: awake. -/
namespace Go.Proofs.Ytkhppojlabajaaa
open Go.RowKit
set_option linter.unusedSimpArgs false
set_option linter.unusedVariables false

def l13 : List Fr := [⟨false, 1, false, 0, 0, 0, 0, ⟨#[72, 101]⟩⟩, ⟨false, 0, false, 0, 0, 0, 0, ⟨#[108, 108]⟩⟩, ⟨true, 0, false, 0, 0, 0, 0, ⟨#[111]⟩⟩]
def m13 : List Fr := [⟨false, 1, true, 0, 0, 0, 1, ⟨#[72, 101]⟩⟩, ⟨false, 0, true, 0, 0, 0, 2, ⟨#[108, 108]⟩⟩, ⟨true, 0, true, 0, 0, 0, 3, ⟨#[111]⟩⟩]
theorem l13_cut : cutFs 1 ⟨#[72, 101, 108, 108, 111]⟩ 2 3 = l13 := by kernel_rfl
theorem l13_count : count13 5 2 = 3 := by kernel_rfl
theorem l13_joins : joins l13 := by
  refine ⟨by simp [l13], fun i hi => ?_⟩
  rcases i with _ | _ | _ | i
  · kernel_rfl
  · kernel_rfl
  · kernel_rfl
  · have : l13.length = 3 := rfl
    omega
theorem l13_str : dstr l13 = ⟨#[72, 101, 108, 108, 111]⟩ := by kernel_rfl
theorem l13_puts : puts l13 = [1, 2, 72, 101, 0, 2, 108, 108, 128, 1, 111] := by kernel_rfl
theorem l13_err : err13 l13 = 0 := by kernel_rfl
theorem l13_mask : maskAll l13 [1, 2, 3] = m13 := by kernel_rfl
theorem l13_good : ∀ f ∈ l13, f.good := by
  intro f hf
  simp only [l13, List.mem_cons, List.not_mem_nil, or_false] at hf
  rcases hf with rfl | rfl | rfl
  · exact zero_good _ _ (by omega) _ (by decide)
  · exact zero_good _ _ (by omega) _ (by decide)
  · exact zero_good _ _ (by omega) _ (by decide)

set_option maxHeartbeats 6400000 in
set_option maxRecDepth 100000 in
theorem aw13 (w : World) : Calls Try.prog 17 #[] w fun e w' => e = .returned (.bool true) ∧ Touch NoS w w' := by
  go_enter Try.func17, Try.ntmps17
  go_wp2_with fail
  refine (k_frames 1 (.inl rfl) ⟨#[72, 101, 108, 108, 111]⟩ (by decide) 2 (by omega) (by omega) 3 l13_count _).mono ?_
  rintro e w1 ⟨v, rfl, ho, ht⟩
  rw [l13_cut] at ho
  obtain ⟨A, c, rfl, hlc, hcm, hrd, _, _⟩ := own_cases ho
  have HR := Lib.hid hrd
  have HT := Lib.hid ht
  clear ht ho hrd
  go_wp2_with fail
  refine (k_join A l13 3 c rfl _ HR.out (by intro f hf; simp only [l13, List.mem_cons, List.not_mem_nil, or_false] at hf; rcases hf with rfl | rfl | rfl <;> decide) (by omega)).mono ?_
  rintro e w2 ⟨hj, ht⟩
  rcases hj with ⟨_, rfl⟩ | ⟨h, _⟩
  case inr => exact absurd l13_joins h
  rw [l13_str, show jop l13 = 1 from rfl]
  have HR2 := Lib.hid (HR.out.touch_no ht)
  have HT2 := Lib.hid (HT.out.trans ht)
  clear ht HR HT
  go_wp2_with fail
  refine (k_bytes A l13 3 c rfl _ HR2.out l13_good (by omega)).mono ?_
  rintro e w3 ⟨hj, ht⟩
  rcases hj with ⟨_, v, rfl, ho⟩ | ⟨h, _⟩
  case inr => exact absurd l13_err h
  rw [l13_puts] at ho
  obtain ⟨A3, c3, rfl, hlc3, hcm3, hrd, _, _⟩ := own_cases ho
  have HR3 := Lib.hid (HR2.out.touch_no ht)
  have HB3 := Lib.hid hrd
  have HT3 := Lib.hid (HT2.out.trans ht)
  clear ht ho hrd HR2 HT2
  have HGD : Hid (∀ x ∈ ([1, 2, 3] : List Int), 0 ≤ x ∧ x ≤ 4294967295) := by intro x hx; simp at hx; omega
  go_wp2_with fail
  refine (k_masked A l13 3 c rfl (some ⟨w3.heap.size, 0, none⟩) [1, 2, 3] 3 3 rfl (by omega) _ (HR3.out.touch_no ((Touch.refl _ _).alloc _)) (Rd.new w3 [.int .u32 1, .int .u32 2, .int .u32 3] 45 (0, 0)) HGD.out (by omega) (by decide)).mono ?_
  rintro e w4 ⟨v4, rfl, ho, ht⟩
  rw [l13_mask] at ho
  obtain ⟨A4, c4, rfl, hlc4, hcm4, hrd, _, _⟩ := own_cases ho
  have HT4 := Lib.hid ((HT3.out.alloc (.cells #[.int .u32 1, .int .u32 2, .int .u32 3] 45)).trans ht)
  have hr3 := (HR3.out.touch_no ((Touch.refl _ _).alloc (.cells #[.int .u32 1, .int .u32 2, .int .u32 3] 45))).touch_no ht
  have hb3 := (HB3.out.touch_no ((Touch.refl _ _).alloc (.cells #[.int .u32 1, .int .u32 2, .int .u32 3] 45))).touch_no ht
  have hcv := conv_str w4 A3 [1, 2, 72, 101, 0, 2, 108, 108, 128, 1, 111] 11 c3 rfl hb3
  rw [show Go.strOfNums [1, 2, 72, 101, 0, 2, 108, 108, 128, 1, 111] = ⟨#[1, 2, 72, 101, 0, 2, 108, 108, 128, 1, 111]⟩ from by kernel_rfl] at hcv
  obtain ⟨g1, o1, rfl, hg1, _, _, _, _, _, _, _, a7⟩ := fr_cells hr3 1 (by decide)
  obtain ⟨g2, o2, rfl, hg2, _, _, _, b3, b4, b5, b6, _⟩ := fr_cells hrd 2 (by decide)
  simp only [l13, m13, List.getElem_cons_succ, List.getElem_cons_zero] at a7 b3 b4 b5 b6
  have heqk : ∀ w, (binOp .eql 42 (.agg #[.int .u8 0, .int .u8 0, .int .u8 0, .int .u8 3]) (.agg #[.int .u8 0, .int .u8 0, .int .u8 0, .int .u8 3])).run Try.prog w = .ok (.bool true) w := fun w => by
    have := eql_key w 0 0 0 3 0 0 0 3
    rw [show ([0, 0, 0, 3] == [(0 : Int), 0, 0, 3]) = true from rfl] at this
    exact this
  clear ht ho hrd hr3 hb3 HR3 HB3 HT3
  go_wp2_with fail
  refine (k_count 5 2 _).mono ?_
  rintro e w5 ⟨rfl, rfl⟩
  rw [l13_count]
  go_wp2
  go_ret
  exact ⟨rfl, HT4.out⟩
end Go.Proofs.Ytkhppojlabajaaa
/- Slice expressions of rows that came in: the new address under a name. -/
namespace Go.Proofs.Ytkhppojlabajaaa
open Go.RowKit
set_option linter.unusedSimpArgs false
set_option linter.unusedVariables false

theorem Rd.take {w : World} {A : Option Addr} {xs : List Value} (h : Rd w A xs) (j : Nat) : Rd w A (xs.take j) := fun hx => by
  obtain ⟨g, off, hA, hg, hc⟩ := h (fun he => hx (by rw [he]; simp))
  exact ⟨g, off, hA, hg, fun i u hu => by rw [List.getElem?_take] at hu; split at hu; exact hc i u hu; cases hu⟩
theorem Rd.drop {w : World} {g off : Nat} {xs : List Value} (h : Rd w (some ⟨g, off, none⟩) xs) (j : Nat) : Rd w (some ⟨g, off + j, none⟩) (xs.drop j) := fun hx => by
  obtain ⟨g', off', hA, hg, hc⟩ := h (fun he => hx (by rw [he]; simp))
  injection hA with hA
  injection hA with h1 h2
  subst h1 h2
  exact ⟨g, off + j, rfl, hg, fun i u hu => by rw [List.getElem?_drop] at hu; rw [Nat.add_assoc]; exact hc _ u hu⟩
theorem Rd.none_nil {w : World} {xs : List Value} (h : Rd w none xs) : xs = [] := by
  rcases xs with _ | ⟨u, l⟩
  · rfl
  · obtain ⟨g, off, hA, _⟩ := h (by simp)
    cases hA
section
variable {T E : TypeId} (hT : Try.prog.underlying T = some (.slice E)) {sz : Nat} (hsz : ∀ W, (sizeOf E).run Try.prog W = .ok sz W)
include hT hsz
theorem sl_any {w : World} {A : Option Addr} {xs : List Value} {n c : Nat} (h : Rd w A xs) (hx : xs.length = n * sz) (hc : n ≤ c) (a b : Int) (k m : Nat) (ha : a = k) (hb : b = m) (hkm : k ≤ m) (hm : m ≤ n) :
    ∃ A', (∀ W, (Instr.slice T (.slice A n c) (some (.int .i64 a)) (some (.int .i64 b)) none).run Try.prog W = .ok (.slice A' (m - k) (c - k)) W) ∧ (m = n → ∀ W, (Instr.slice T (.slice A n c) (some (.int .i64 a)) none none).run Try.prog W = .ok (.slice A' (n - k) (c - k)) W) ∧
      Rd w A' ((xs.take (m * sz)).drop (k * sz)) := by
  subst ha hb
  have he : Try.prog.elem T = E := by simp [Program.elem, hT]
  have hT' : Try.prog.underlying T = some (.slice (Try.prog.elem T)) := by rw [he]; exact hT
  by_cases hck : c = k
  · refine ⟨A, fun W => ?_, fun hmn W => ?_, ?_⟩
    · rw [run_slice_lh W T A n c hT' .i64 .i64 k m (by omega) (by omega) (by omega), he, hsz]
      simp [sliced, hck]
    · rw [run_slice_l W T A n c hT' .i64 k (by omega) (by omega), he, hsz]
      simp [sliced, hck]
    · have hl : ((xs.take (m * sz)).drop (k * sz)) = [] := List.drop_of_length_le (by rw [List.length_take, hx]; have := Nat.mul_le_mul_right sz (show m ≤ k by omega); omega)
      rw [hl]
      exact fun h => absurd rfl h
  · rcases A with _ | ⟨g, off, spot⟩
    · refine ⟨none, fun W => ?_, fun hmn W => ?_, ?_⟩
      · rw [run_slice_lh W T none n c hT' .i64 .i64 k m (by omega) (by omega) (by omega), he, hsz]
        simp [sliced]
      · rw [run_slice_l W T none n c hT' .i64 k (by omega) (by omega), he, hsz]
        simp [sliced]
      · have := h.none_nil
        subst this
        intro hne
        simp at hne
    · refine ⟨some ((⟨g, off, spot⟩ : Addr).add (k * sz)), fun W => ?_, fun hmn W => ?_, ?_⟩
      · rw [run_slice_lh W T _ n c hT' .i64 .i64 k m (by omega) (by omega) (by omega), he, hsz]
        simp [sliced, hck]
      · rw [run_slice_l W T _ n c hT' .i64 k (by omega) (by omega), he, hsz]
        simp [sliced, hck]
      · intro hne
        have h1 : xs ≠ [] := fun he => hne (by rw [he]; simp)
        obtain ⟨g', off', hA, _⟩ := h h1
        injection hA with hA
        injection hA with _ _ h3
        subst h3
        rw [add_plain]
        exact (h.take _).drop _ hne
end
theorem size_fr (w : World) : (sizeOf 44).run Try.prog w = .ok 8 w := by kernel_rfl
end Go.Proofs.Ytkhppojlabajaaa
