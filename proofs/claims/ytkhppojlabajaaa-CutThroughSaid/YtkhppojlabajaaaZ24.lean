/- cut: Bytes; ref13: Bytes. -/
import Derived.Test.YtkhppojlabajaaaZ16
import Derived.Test.YtkhppojlabajaaaZ23
/- cut: Bytes; ref13: Bytes. -/
namespace Go.Proofs.Ytkhppojlabajaaa
open Go.RowKit
set_option linter.unusedSimpArgs false
set_option linter.unusedVariables false

/-- The first error of frames. -/
def err13 : List Fr → Int
  | [] => 0
  | f :: l => if check9 f = 0 then err13 l else check9 f
/-- Frames' bytes. -/
def puts (l : List Fr) : List Int := l.flatMap fput
theorem puts_append (a b : List Fr) : puts (a ++ b) = puts a ++ puts b := by simp [puts]
theorem puts_take (l : List Fr) (k : Nat) (h : k < l.length) : puts (l.take (k + 1)) = puts (l.take k) ++ fput l[k] := by
  have e : l.take (k + 1) = l.take k ++ [l[k]] := by simp
  rw [e, puts_append]
  simp [puts]
theorem err13_append (a b : List Fr) : err13 (a ++ b) = if err13 a = 0 then err13 b else err13 a := by
  induction a with
  | nil => rfl
  | cons f l ih =>
    show (if check9 f = 0 then err13 (l ++ b) else check9 f) = if (if check9 f = 0 then err13 l else check9 f) = 0 then err13 b else (if check9 f = 0 then err13 l else check9 f)
    by_cases h : check9 f = 0
    · rw [if_pos h, if_pos h, ih]
    · rw [if_neg h, if_neg h, if_neg h]
theorem err13_zero (l : List Fr) : err13 l = 0 ↔ ∀ f ∈ l, check9 f = 0 := by
  induction l with
  | nil => simp [err13]
  | cons f l ih =>
    show (if check9 f = 0 then err13 l else check9 f) = 0 ↔ _
    by_cases h : check9 f = 0
    · rw [if_pos h, ih]; simp [h]
    · rw [if_neg h]; simp [h]
theorem err13_take (l : List Fr) (k : Nat) (h : k < l.length) (h0 : err13 (l.take k) = 0) (h1 : check9 l[k] ≠ 0) : err13 l = check9 l[k] := by
  have e : l = l.take k ++ (l[k] :: l.drop (k + 1)) := by rw [← List.drop_eq_getElem_cons h, List.take_append_drop]
  have h2 : err13 l = err13 (l.take k ++ (l[k] :: l.drop (k + 1))) := congrArg err13 e
  rw [h2, err13_append, if_pos h0]
  exact if_neg h1
theorem err13_take_succ (l : List Fr) (k : Nat) (h : k < l.length) (h0 : err13 (l.take k) = 0) (h1 : check9 l[k] = 0) : err13 (l.take (k + 1)) = 0 := by
  have e : l.take (k + 1) = l.take k ++ [l[k]] := by simp
  rw [e, err13_append, if_pos h0]
  exact if_pos h1
theorem put_size {f : Fr} (h : check9 f = 0) : (fput f).length ≤ 65550 := by
  rw [fput_length]
  have := size9_le f
  have := (check_ok h).2.1
  omega
theorem puts_size (l : List Fr) (h : err13 l = 0) : (puts l).length ≤ l.length * 65550 := by
  induction l with
  | nil => exact Nat.le_refl _
  | cons f l ih =>
    rw [err13_zero] at h
    have h1 := put_size (h f (by simp))
    have h2 := ih ((err13_zero l).2 fun x hx => h x (by simp [hx]))
    show (fput f ++ puts l).length ≤ (l.length + 1) * 65550
    rw [List.length_append]
    omega

set_option maxHeartbeats 6400000 in
set_option maxRecDepth 100000 in
theorem k_bytes (A : Option Addr) (l : List Fr) (n c : Nat) (hn : l.length = n) (w : World) (hr : Rd w A (frs l)) (hf : ∀ f ∈ l, f.good) (hl : n ≤ 1000) :
    Calls Try.prog 25 #[.slice A n c] w fun e w' => ((err13 l = 0 ∧ ∃ v, e = .returned (.tuple #[v, .int .i64 0]) ∧ w'.ownsRow w.heap.size 5 1 v (puts l).length (u8s (puts l))) ∨ (err13 l ≠ 0 ∧ e = .returned (.tuple #[.slice none 0 0, .int .i64 (err13 l)]))) ∧ Touch NoS w w' := by
  have HR := Lib.hid hr
  have HF := Lib.hid hf
  have HN := Lib.hid hn
  have hmf : ∀ (fn : Fn) (first cap : Array Value) (w : World), (Instr.makeFunc fn first cap).run Try.prog w = .ok (.func fn first cap) w := fun _ _ _ _ => rfl
  clear hr hf hn
  go_enter Try.func25, Try.ntmps25
  go_wp2_with fail
  have hb0 := Blk.new w 36 #[.slice none 0 0]
  obtain ⟨B, hB⟩ : ∃ B, B = w.heap.size := ⟨_, rfl⟩
  have HB0 := Lib.hid (hB ▸ hb0)
  have HT0 := Lib.hid ((Touch.refl NoS w).alloc (.cells #[.slice none 0 0] 36))
  have HBS := Lib.hid hB
  rw [← hB]
  clear hmf hb0 hB
  go_loopw [12] (fun iv wr => ∃ k : Nat, k ≤ n ∧ iv = .int .i64 k ∧ Hid (err13 (l.take k) = 0) ∧ (∃ v, Blk wr B 36 #[v] ∧ wr.ownsRow w.heap.size 5 1 v (puts (l.take k)).length (u8s (puts (l.take k)))) ∧ Touch NoS w wr) (fun iv _ => n - (intOf iv).toNat)
  case atStart => exact ⟨0, by omega, rfl, rfl, ⟨_, HB0.out, own_nil _ _ _ _⟩, HT0.out⟩
  case round =>
    obtain ⟨k, hk, rfl, he, ⟨v, hb, ho⟩, ht⟩ := hrel
    have HE := Lib.hid he.out
    have HB := Lib.hid hb
    have HO := Lib.hid ho
    have HT := Lib.hid ht
    clear he
    by_cases hlt : k < n
    · have hk1 : k < l.length := by rw [HN.out]; exact hlt
      obtain ⟨g, off, rfl, hg, a0, a1, a2, a3, a4, a5, a6, a7⟩ := fr_cells (HR.out.touch_no ht) k hk1
      have hfi := HF.out l[k] (List.getElem_mem hk1)
      by_cases hc : check9 l[k] = 0
      · have htt := Lib.hid (puts_take l k hk1)
        have hnx := Lib.hid (err13_take_succ l k hk1 HE.out hc)
        have hsz := put_size hc
        have hps := puts_size (l.take k) HE.out
        rw [List.length_take, Nat.min_eq_left (by omega)] at hps
        have HADD := Lib.hid (fun W hbW hoW hbs => k_add_ok l[k] hfi hc B w.heap.size v (puts (l.take k)) (puts (l.take k)).length rfl W hbW hoW hbs (by omega) (by omega))
        obtain ⟨f, hf⟩ : ∃ f, f = l[k] := ⟨_, rfl⟩
        rw [← hf] at a0 a1 a2 a3 a4 a5 a6 a7 hsz HADD htt
        obtain ⟨fin, op, masked, k0, k1, k2, k3, d⟩ := f
        simp only [Fr.cs] at *
        clear ht hb ho hf hps hsz hc hfi hk1
        go_wp2_with fail
        refine (HADD.out _ (HB.out.alloc _) (own_no HO.out ((Touch.refl NoS _).alloc _)) (HT.out.alloc _).size).mono ?_
        rintro e w4 ⟨v4, rfl, hb4, ho4, ht4⟩
        have HB4 := Lib.hid hb4
        have HO4 := Lib.hid ho4
        have HT4 : Hid (Touch NoS w w4) := (HT.out.alloc _).at_new ht4 (by rw [HBS.out]; exact Nat.le_refl _)
        clear hb4 ho4 ht4 HB HO HT
        go_wp2_with fail
        go_roundw
        · refine ⟨k + 1, by omega, by go_num, hnx, ⟨v4, HB4.out, ?_⟩, HT4.out⟩
          rw [htt.out, List.length_append]
          exact HO4.out
        · simp [intOf]; omega
      · have her := Lib.hid (err13_take l k hk1 HE.out hc)
        have hps := puts_size (l.take k) HE.out
        rw [List.length_take, Nat.min_eq_left (by omega)] at hps
        have HADD := Lib.hid (fun W hbW hoW => k_add_no l[k] hfi hc B w.heap.size v (puts (l.take k)) (puts (l.take k)).length rfl W hbW hoW (by omega))
        obtain ⟨er, hee⟩ : ∃ er, er = check9 l[k] := ⟨_, rfl⟩
        rw [← hee] at HADD her hc
        have q1 : (er != 0) = true := by rw [bne_iff_ne]; exact hc
        obtain ⟨f, hf⟩ : ∃ f, f = l[k] := ⟨_, rfl⟩
        rw [← hf] at a0 a1 a2 a3 a4 a5 a6 a7 HADD
        obtain ⟨fin, op, masked, k0, k1, k2, k3, d⟩ := f
        simp only [Fr.cs] at *
        clear ht hb ho hf hps hfi hk1 hee
        go_wp2_with fail
        refine (HADD.out _ (HB.out.alloc _) (own_no HO.out ((Touch.refl NoS _).alloc _))).mono ?_
        rintro e w4 ⟨rfl, ht4⟩
        have HT4 : Hid (Touch NoS w w4) := (HT.out.alloc _).at_new ht4 (by rw [HBS.out]; exact Nat.le_refl _)
        clear ht4 HB HO HT
        go_wp2
        go_ret2
        exact ⟨.inr ⟨by rw [her.out]; exact hc, by rw [her.out]; rfl⟩, HT4.out⟩
    · have hkn : k = n := by omega
      subst hkn
      rw [List.take_of_length_le (by rw [HN.out]; exact Nat.le_refl _)] at HE HO
      have b0 := hb.cell 0
      have blt := hb.lt
      simp at b0
      clear ht hb ho
      go_wp2
      go_ret2
      exact ⟨.inl ⟨HE.out, _, rfl, HO.out⟩, HT.out⟩

set_option maxHeartbeats 6400000 in
set_option maxRecDepth 100000 in
theorem r13_bytes (A : Option Addr) (l : List Fr) (n c : Nat) (hn : l.length = n) (w : World) (hr : Rd w A (frs l)) (hf : ∀ f ∈ l, f.good) (hz : ∀ f ∈ l, f.data.size ≤ 1000000) (hl : n ≤ 1000) :
    Calls Try.prog 26 #[.slice A n c] w fun e w' => e = .returned (.tuple #[.string (if err13 l = 0 then Go.strOfNums (puts l) else ⟨#[]⟩), .int .i64 (err13 l)]) ∧ Touch NoS w w' := by
  have HR := Lib.hid hr
  have HF := Lib.hid hf
  have HZ := Lib.hid hz
  have HN := Lib.hid hn
  obtain ⟨T, hT⟩ : ∃ T, T = (if err13 l = 0 then Go.strOfNums (puts l) else ⟨#[]⟩) := ⟨_, rfl⟩
  obtain ⟨R, hR⟩ : ∃ R, R = err13 l := ⟨_, rfl⟩
  have HTD := Lib.hid hT
  have HRD := Lib.hid hR
  rw [← hT, ← hR]
  clear hr hf hn hz hT hR
  go_enter Try.func26, Try.ntmps26
  go_wp2_with fail
  go_loopw [4, 5] (fun sv iv wr => ∃ k : Nat, k ≤ n ∧ iv = .int .i64 k ∧ Hid (err13 (l.take k) = 0) ∧ sv = .string (Go.strOfNums (puts (l.take k))) ∧ Touch NoS w wr) (fun _ iv _ => n - (intOf iv).toNat)
  case atStart => exact ⟨0, by omega, rfl, rfl, rfl, Touch.refl _ _⟩
  case round =>
    obtain ⟨k, hk, rfl, he, rfl, ht⟩ := hrel
    have HE := Lib.hid he.out
    have HT := Lib.hid ht
    clear he
    by_cases hlt : k < n
    · have hk1 : k < l.length := by rw [HN.out]; exact hlt
      obtain ⟨g, off, rfl, hg, a0, a1, a2, a3, a4, a5, a6, a7⟩ := fr_cells (HR.out.touch_no ht) k hk1
      have hfi := HF.out l[k] (List.getElem_mem hk1)
      have hzi := HZ.out l[k] (List.getElem_mem hk1)
      by_cases hc : check9 l[k] = 0
      · have htt := puts_take l k hk1
        have hnx := Lib.hid (err13_take_succ l k hk1 HE.out hc)
        have hsz := put_size hc
        have hps := puts_size (l.take k) HE.out
        rw [List.length_take, Nat.min_eq_left (by omega)] at hps
        have HCK := Lib.hid (fun W => r9_check l[k] (by unfold maxLen; omega) W)
        have HTX := Lib.hid (fun W => r9_text l[k] hfi (check_ok hc).2.2 hzi W)
        rw [hc] at HCK
        obtain ⟨f, hf⟩ : ∃ f, f = l[k] := ⟨_, rfl⟩
        rw [← hf] at a0 a1 a2 a3 a4 a5 a6 a7 hsz HCK HTX htt
        obtain ⟨D, hD⟩ : ∃ D, D = Go.strOfNums (fput f) := ⟨_, rfl⟩
        obtain ⟨E, hE⟩ : ∃ E, E = Go.strOfNums (puts (l.take k)) := ⟨_, rfl⟩
        have hDz : D.size ≤ 65550 := by rw [hD, numsB_size]; exact hsz
        have hEz : E.size ≤ 65550000 := by rw [hE, numsB_size]; omega
        have HNX := Lib.hid (show Go.strOfNums (puts (l.take (k + 1))) = E ++ D by rw [htt, nums_append, hE, hD])
        rw [← hD] at HTX
        rw [← hE]
        obtain ⟨fin, op, masked, k0, k1, k2, k3, d⟩ := f
        simp only [Fr.cs] at *
        clear ht hf hps hsz hc hfi hzi hk1 htt hD hE
        go_wp2_with fail
        refine (HCK.out _).mono ?_
        rintro e w4 ⟨rfl, ht4⟩
        have a0 := ht4.cell a0
        have a1 := ht4.cell a1
        have a2 := ht4.cell a2
        have a3 := ht4.cell a3
        have a4 := ht4.cell a4
        have a5 := ht4.cell a5
        have a6 := ht4.cell a6
        have a7 := ht4.cell a7
        have HT4 := Lib.hid (HT.out.trans ht4)
        clear ht4 HT
        go_wp2_with fail
        refine (HTX.out _).mono ?_
        rintro e w5 ⟨rfl, ht5⟩
        have HT5 := Lib.hid (HT4.out.trans ht5)
        clear ht5 HT4
        go_wp2_with fail
        go_roundw
        · exact ⟨k + 1, by omega, by go_num, hnx, by rw [HNX.out], HT5.out⟩
        · simp [intOf]; omega
      · have her := Lib.hid (err13_take l k hk1 HE.out hc)
        have HCK := Lib.hid (fun W => r9_check l[k] (by unfold maxLen; omega) W)
        obtain ⟨er, hee⟩ : ∃ er, er = check9 l[k] := ⟨_, rfl⟩
        rw [← hee] at HCK her hc
        have q1 : (er != 0) = true := by rw [bne_iff_ne]; exact hc
        obtain ⟨f, hf⟩ : ∃ f, f = l[k] := ⟨_, rfl⟩
        rw [← hf] at a0 a1 a2 a3 a4 a5 a6 a7 HCK
        obtain ⟨fin, op, masked, k0, k1, k2, k3, d⟩ := f
        simp only [Fr.cs] at *
        clear ht hf hfi hk1 hee hzi
        go_wp2_with fail
        refine (HCK.out _).mono ?_
        rintro e w4 ⟨rfl, ht4⟩
        have HT4 := Lib.hid (HT.out.trans ht4)
        clear ht4 HT
        go_wp2
        go_ret2
        refine ⟨?_, HT4.out⟩
        rw [HTD.out, HRD.out, her.out, if_neg hc]
        rfl
    · have hkn : k = n := by omega
      subst hkn
      rw [List.take_of_length_le (by rw [HN.out]; exact Nat.le_refl _)] at HE
      have htk : l.take k = l := List.take_of_length_le (by rw [HN.out]; exact Nat.le_refl _)
      rw [htk]
      clear htk
      clear ht
      go_wp2
      go_ret2
      refine ⟨?_, HT.out⟩
      rw [HTD.out, HRD.out, HE.out, if_pos rfl]
      rfl
end Go.Proofs.Ytkhppojlabajaaa
