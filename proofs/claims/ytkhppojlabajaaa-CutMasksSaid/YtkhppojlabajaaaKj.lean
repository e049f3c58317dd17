/- ref13: Join. -/
import Derived.Test.YtkhppojlabajaaaKi
namespace Go.Proofs.Ytkhppojlabajaaa
open Go.RowKit
set_option linter.unusedSimpArgs false
set_option linter.unusedVariables false

set_option maxHeartbeats 6400000 in
set_option maxRecDepth 100000 in
theorem r13_join (A : Option Addr) (l : List Fr) (n c : Nat) (hn : l.length = n) (w : World) (hr : Rd w A (frs l)) (hz : ∀ f ∈ l, f.data.size ≤ 100000) (hl : n ≤ 1000) :
    Calls Try.prog 24 #[.slice A n c] w fun e w' => ((joins l ∧ e = .returned (.tuple #[.int .i64 (jop l), .string (dstr l), .bool true])) ∨ (¬ joins l ∧ e = .returned (.tuple #[.int .i64 0, .string ⟨#[]⟩, .bool false]))) ∧ Touch NoS w w' := by
  have HR := Lib.hid hr
  have HZ := Lib.hid hz
  have HN := Lib.hid hn
  obtain ⟨op, hop'⟩ : ∃ op, op = jop l := ⟨_, rfl⟩
  have HOP := Lib.hid hop'
  rw [← hop']
  clear hr hz hn hop'
  go_enter Try.func24, Try.ntmps24
  go_wp2_with fail
  go_loopw [5, 6] (fun sv iv wr => ∃ k : Nat, k ≤ n ∧ iv = .int .i64 k ∧ Hid (∀ i (h : i < l.length), i < k → jok n i l[i] = true) ∧ sv = .string (dstr (l.take k)) ∧ Touch NoS w wr) (fun _ iv _ => n - (intOf iv).toNat)
  case atStart => exact ⟨0, by omega, rfl, fun i _ h => absurd h (by omega), rfl, Touch.refl _ _⟩
  case round =>
    obtain ⟨k, hk, rfl, he, rfl, ht⟩ := hrel
    have HE := Lib.hid he.out
    have HT := Lib.hid ht
    clear he
    have hdl := dlist_size (l.take k) 100000 (fun f hf => HZ.out f (List.mem_of_mem_take hf))
    rw [List.length_take, HN.out, Nat.min_eq_left (by omega)] at hdl
    have hds : (dstr (l.take k)).size ≤ 100000000 := by rw [dstr_size]; omega
    by_cases hlt : k < n
    · have hk1 : k < l.length := by rw [HN.out]; exact hlt
      obtain ⟨g, off, rfl, hg, a0, a1, a2, a3, a4, a5, a6, a7⟩ := fr_cells (HR.out.touch_no ht) k hk1
      have hzi := HZ.out l[k] (List.getElem_mem hk1)
      have b1 : ((k : Int) + 1 == (n : Int)) = decide (k + 1 = n) := by
        by_cases h : k + 1 = n
        · rw [decide_eq_true h, beq_iff_eq]; omega
        · rw [decide_eq_false h, beq_eq_false_iff_ne]; omega
      by_cases hj : jok n k l[k] = true
      · have hnx := dstr_take l k hk1
        obtain ⟨E, hE⟩ : ∃ E, E = dstr (l.take k) := ⟨_, rfl⟩
        rw [← hE] at hnx hds ⊢
        have HE1 : Hid (∀ i (h : i < l.length), i < k + 1 → jok n i l[i] = true) := fun i h hi => by
          by_cases hik : i = k
          · subst hik; exact hj
          · exact HE.out i h (by omega)
        obtain ⟨f, hf⟩ : ∃ f, f = l[k] := ⟨_, rfl⟩
        rw [← hf] at a0 a1 a2 a3 a4 a5 a6 a7 hj hnx hzi
        have HNX := Lib.hid hnx
        have hcs : (((k : Int) == 0) = true ∧ f.op = 1 ∧ f.fin = decide (k + 1 = n)) ∨ (((k : Int) == 0) = true ∧ f.op = 2 ∧ f.fin = decide (k + 1 = n)) ∨ (((k : Int) == 0) = false ∧ f.op = 0 ∧ f.fin = decide (k + 1 = n)) := by
          rcases k with _ | q
          · obtain ⟨h1 | h1, h2⟩ := jok_first hj
            · exact .inl ⟨rfl, h1, h2⟩
            · exact .inr (.inl ⟨rfl, h1, h2⟩)
          · obtain ⟨h1, h2⟩ := jok_more hj
            exact .inr (.inr ⟨by rw [beq_eq_false_iff_ne]; omega, h1, h2⟩)
        obtain ⟨fin, o, masked, k0, k1, k2, k3, d⟩ := f
        obtain ⟨b, hb'⟩ : ∃ b, b = decide (k + 1 = n) := ⟨_, rfl⟩
        rw [← hb'] at b1 hcs
        have b3 : (b != b) = false := by cases b <;> rfl
        simp only [Fr.cs] at *
        have i1 : (E.size : Int) ≤ 100000000 := by omega
        have i2 : (d.size : Int) ≤ 100000 := by omega
        clear ht hf hj hk1 hb' hdl hzi hds hnx hE
        rcases hcs with ⟨q0, rfl, rfl⟩ | ⟨q0, rfl, rfl⟩ | ⟨q0, rfl, rfl⟩
        all_goals
          first
            | have hpk : ¬ 0 < k := (by rw [beq_iff_eq] at q0; omega)
            | have hpk : 0 < k := (by rw [beq_eq_false_iff_ne] at q0; omega)
          go_wp2_with fail
          go_roundw
          · exact ⟨k + 1, by omega, by go_num, HE1, by rw [HNX.out], HT.out⟩
          · simp [intOf]; omega
      · have hjf : jok n k l[k] = false := by simpa using hj
        have HNJ : Hid (¬ joins l) := fun h => by
          have := h.2 k hk1
          rw [HN.out, hjf] at this
          cases this
        obtain ⟨E, hE⟩ : ∃ E, E = dstr (l.take k) := ⟨_, rfl⟩
        rw [← hE]
        obtain ⟨f, hf⟩ : ∃ f, f = l[k] := ⟨_, rfl⟩
        rw [← hf] at a0 a1 a2 a3 a4 a5 a6 a7 hjf hzi
        have hcs : (((k : Int) == 0) = true ∧ ((f.op != 1) = true ∧ (f.op != 2) = true)) ∨ (((k : Int) == 0) = true ∧ f.op = 1 ∧ f.fin = !decide (k + 1 = n)) ∨ (((k : Int) == 0) = true ∧ f.op = 2 ∧ f.fin = !decide (k + 1 = n)) ∨ (((k : Int) == 0) = false ∧ (f.op != 0) = true) ∨ (((k : Int) == 0) = false ∧ f.op = 0 ∧ f.fin = !decide (k + 1 = n)) := by
          rcases k with _ | q
          · rcases jok_bad0 hjf with ⟨h1, h2⟩ | ⟨h1 | h1, h2⟩
            · exact .inl ⟨rfl, bne_iff_ne.2 h1, bne_iff_ne.2 h2⟩
            · exact .inr (.inl ⟨rfl, h1, h2⟩)
            · exact .inr (.inr (.inl ⟨rfl, h1, h2⟩))
          · have h0 : (((q + 1 : Nat) : Int) == 0) = false := by rw [beq_eq_false_iff_ne]; omega
            rcases jok_bad1 hjf with h1 | ⟨h1, h2⟩
            · exact .inr (.inr (.inr (.inl ⟨h0, by rw [bne_iff_ne]; exact h1⟩)))
            · exact .inr (.inr (.inr (.inr ⟨h0, h1, h2⟩)))
        obtain ⟨fin, o, masked, k0, k1, k2, k3, d⟩ := f
        obtain ⟨b, hb'⟩ : ∃ b, b = decide (k + 1 = n) := ⟨_, rfl⟩
        rw [← hb'] at b1 hcs
        simp only [Fr.cs] at *
        clear ht hf hj hjf hk1 hb' hdl hzi hds hE
        rcases hcs with ⟨q0, q1, q2⟩ | ⟨q0, rfl, rfl⟩ | ⟨q0, rfl, rfl⟩ | ⟨q0, q1⟩ | ⟨q0, rfl, rfl⟩
        all_goals
          cases b
        all_goals
          try simp only [Bool.not_true, Bool.not_false] at a0
          first
            | have hpk : ¬ 0 < k := (by rw [beq_iff_eq] at q0; omega)
            | have hpk : 0 < k := (by rw [beq_eq_false_iff_ne] at q0; omega)
          go_wp2
          refine bodyPost_ret (v := .tuple #[.int .i64 0, .string ⟨#[]⟩, .bool false]) (by simp [results, Try.results24, go_sem]) rfl ⟨.inr ⟨HNJ.out, rfl⟩, HT.out⟩
    · have hkn : k = n := by omega
      subst hkn
      have htk : l.take k = l := List.take_of_length_le (by rw [HN.out]; exact Nat.le_refl _)
      rw [htk]
      clear hdl hds
      by_cases hk0 : k = 0
      · subst hk0
        have hnil : l = [] := List.eq_nil_of_length_eq_zero HN.out
        have HNJ : Hid (¬ joins l) := fun h => h.1 hnil
        clear ht hnil
        go_wp2
        refine bodyPost_ret (v := .tuple #[.int .i64 0, .string ⟨#[]⟩, .bool false]) (by simp [results, Try.results24, go_sem]) rfl ⟨.inr ⟨HNJ.out, rfl⟩, HT.out⟩
      · have h0 : 0 < l.length := by rw [HN.out]; omega
        have HJ : Hid (joins l) := ⟨fun h => by rw [h] at h0; simp at h0, fun i hi => by rw [HN.out]; exact HE.out i hi (by rw [← HN.out]; exact hi)⟩
        obtain ⟨g0, off0, rfl, hg0, _, c1, _⟩ := fr_cells HR.out 0 h0
        have hop : l[0].op = jop l := by
          cases l with
          | nil => simp at h0
          | cons f r => rfl
        rw [hop, ← HOP.out] at c1
        simp only [Nat.zero_mul, Nat.add_zero] at c1
        have a1 := ht.cell c1
        have hgr : g0 < wr.heap.size := Nat.lt_of_lt_of_le hg0 ht.size
        have hk1 : 0 < k := by omega
        clear ht hop hk0 c1
        go_wp2
        refine bodyPost_ret (v := .tuple #[.int .i64 op, .string (dstr l), .bool true]) (by simp [results, Try.results24, go_sem]) rfl ⟨.inl ⟨HJ.out, rfl⟩, HT.out⟩
end Go.Proofs.Ytkhppojlabajaaa
