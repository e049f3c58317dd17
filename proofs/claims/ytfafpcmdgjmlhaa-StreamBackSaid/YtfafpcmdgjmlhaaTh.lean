/- ref10: Same, Few, Text. -/
import Derived.Test.YtfafpcmdgjmlhaaTc
import Derived.Test.YtfafpcmdgjmlhaaRb
namespace Go.Proofs.Ytfafpcmdgjmlhaa
open Go.RowKit
set_option linter.unusedSimpArgs false
set_option linter.unusedVariables false

theorem flat_at {α : Type} (cells : α → List Value) (s : Nat) (hs : ∀ x, (cells x).length = s) : ∀ (l : List α) (k : Nat) (hk : k < l.length) (j : Nat), j < s → (l.flatMap cells)[k * s + j]? = (cells l[k])[j]? := by
  intro l
  induction l with
  | nil => intro k hk; simp at hk
  | cons e l ih =>
    intro k hk j hj
    rw [List.flatMap_cons]
    cases k with
    | zero => simp only [Nat.zero_mul, Nat.zero_add]; rw [List.getElem?_append_left (by rw [hs]; exact hj)]; rfl
    | succ k =>
      rw [List.getElem?_append_right (by rw [hs, Nat.succ_mul]; omega), hs, show (k + 1) * s + j - s = k * s + j from by rw [Nat.succ_mul]; omega]
      exact ih k (by simpa using hk) j hj
theorem fr_cells {w : World} {A : Option Addr} {l : List Fr} (h : Rd w A (frs l)) (k : Nat) (hk : k < l.length) : ∃ g off, A = some ⟨g, off, none⟩ ∧ g < w.heap.size ∧
    w.cell? ⟨g, off + k * 8, none⟩ = some (.bool l[k].fin) ∧ w.cell? ⟨g, off + k * 8 + 1, none⟩ = some (.int .i64 l[k].op) ∧ w.cell? ⟨g, off + k * 8 + 2, none⟩ = some (.bool l[k].masked) ∧
    w.cell? ⟨g, off + k * 8 + 3, none⟩ = some (.int .u8 l[k].k0) ∧ w.cell? ⟨g, off + k * 8 + 4, none⟩ = some (.int .u8 l[k].k1) ∧ w.cell? ⟨g, off + k * 8 + 5, none⟩ = some (.int .u8 l[k].k2) ∧ w.cell? ⟨g, off + k * 8 + 6, none⟩ = some (.int .u8 l[k].k3) ∧
    w.cell? ⟨g, off + k * 8 + 7, none⟩ = some (.string l[k].data) := by
  have hf := flat_at Fr.cl 8 (fun _ => rfl) l k hk
  obtain ⟨g, off, hA, hg, hc⟩ := h (by intro he; have := hf 0 (by omega); unfold frs at he; rw [he] at this; simp [Fr.cl] at this)
  have hc' : ∀ j (hj : j < 8) u, (Fr.cl l[k])[j]? = some u → w.cell? ⟨g, off + k * 8 + j, none⟩ = some u := fun j hj u hu => by
    rw [Nat.add_assoc]; exact hc _ u ((hf j hj).trans hu)
  exact ⟨g, off, hA, hg, hc' 0 (by omega) _ rfl, hc' 1 (by omega) _ rfl, hc' 2 (by omega) _ rfl, hc' 3 (by omega) _ rfl, hc' 4 (by omega) _ rfl, hc' 5 (by omega) _ rfl, hc' 6 (by omega) _ rfl, hc' 7 (by omega) _ rfl⟩
theorem take_succ_eq {α : Type} (l m : List α) (k : Nat) (hl : k < l.length) (hm : k < m.length) (h : l.take k = m.take k) : l.take (k + 1) = m.take (k + 1) ↔ l[k] = m[k] := by
  have e1 : l.take (k + 1) = l.take k ++ [l[k]] := by simp
  have e2 : m.take (k + 1) = m.take k ++ [m[k]] := by simp
  rw [e1, e2, h]
  constructor
  · intro h'; have := List.append_cancel_left h'; simpa using this
  · intro h'; rw [h']

instance : DecidableEq Fr := fun f g => decidable_of_iff (f.same g = true) (Fr.same_iff f g)
set_option maxHeartbeats 3200000 in
set_option maxRecDepth 100000 in
theorem r10_same (A B : Option Addr) (l m : List Fr) (n n' c c' : Nat) (hn : l.length = n) (hn' : m.length = n') (w : World) (ha : Rd w A (frs l)) (hb : Rd w B (frs m)) (hl : n ≤ 1000000) (hl' : n' ≤ 1000000) :
    Calls Try.prog 29 #[.slice A n c, .slice B n' c'] w fun e w' => e = .returned (.bool (decide (l = m))) ∧ Touch NoS w w' := by
  by_cases hnn : n = n'
  · subst hnn
    have HA := Lib.hid ha
    have HB := Lib.hid hb
    have HN := Lib.hid hn
    have HN' := Lib.hid hn'
    obtain ⟨R, hR⟩ : ∃ R, R = decide (l = m) := ⟨_, rfl⟩
    have HR := Lib.hid hR
    rw [← hR]
    clear ha hb hn hn' hR
    go_enter Try.func29, Try.ntmps29
    go_wp2_with fail
    go_loopw [5] (fun i wr => ∃ k : Nat, k ≤ n ∧ i = .int .i64 k ∧ Hid (l.take k = m.take k) ∧ Touch NoS w wr) (fun i _ => n - (intOf i).toNat)
    case atStart => exact ⟨0, by omega, rfl, rfl, Touch.refl _ _⟩
    case round =>
      obtain ⟨k, hk, rfl, he, ht⟩ := hrel
      have HE := Lib.hid he
      have HT := Lib.hid ht
      by_cases hlt : k < n
      · have hk1 : k < l.length := by rw [HN.out]; exact hlt
        have hk2 : k < m.length := by rw [HN'.out]; exact hlt
        obtain ⟨g, off, rfl, hg, a0, a1, a2, a3, a4, a5, a6, a7⟩ := fr_cells (HA.out.touch_no ht) k hk1
        obtain ⟨g', off', rfl, hg', b0, b1, b2, b3, b4, b5, b6, b7⟩ := fr_cells (HB.out.touch_no ht) k hk2
        have hts := take_succ_eq l m k hk1 hk2 he.out
        obtain ⟨f, hf⟩ : ∃ f, f = l[k] := ⟨_, rfl⟩
        obtain ⟨f', hf'⟩ : ∃ f, f = m[k] := ⟨_, rfl⟩
        rw [← hf] at a0 a1 a2 a3 a4 a5 a6 a7 hts
        rw [← hf'] at b0 b1 b2 b3 b4 b5 b6 b7 hts
        obtain ⟨b, hbb⟩ : ∃ b, b = f.same f' := ⟨_, rfl⟩
        have hneq := neq_fr_all f f' b hbb.symm
        have HTS : Hid (l.take (k + 1) = m.take (k + 1) ↔ b = true) := by
          show l.take (k + 1) = m.take (k + 1) ↔ b = true
          rw [hts, hbb, Fr.same_iff]
        obtain ⟨fin, op, masked, k0, k1, k2, k3, d⟩ := f
        obtain ⟨fin', op', masked', k0', k1', k2', k3', d'⟩ := f'
        clear he ht hk1 hk2 hts hf hf' hbb
        go_wp2_with fail
        go_quiet (fail)
        cases b with
        | true =>
          go_wp2_with fail
          go_roundw
          · exact ⟨k + 1, by omega, by go_num, HTS.out.2 rfl, HT.out.drewN _⟩
          · simp [intOf]; omega
        | false =>
          go_wp2
          go_ret
          refine ⟨?_, HT.out.drewN _⟩
          rw [HR.out, decide_eq_false (fun h => by have := HTS.out.1 (by rw [h]); cases this)]
          rfl
      · have hkn : k = n := by omega
        subst hkn
        clear he ht
        go_wp2
        go_ret
        refine ⟨?_, HT.out⟩
        have h := HE.out.out
        rw [List.take_of_length_le (by rw [HN.out]; exact Nat.le_refl _), List.take_of_length_le (by rw [HN'.out]; exact Nat.le_refl _)] at h
        rw [HR.out, decide_eq_true h]
        rfl
  · have hd : decide (l = m) = false := decide_eq_false (fun h => hnn (by rw [← hn, ← hn', h]))
    have hq : ((n : Int) != n') = true := by rw [bne_iff_ne]; omega
    have hq2 : ¬ (n : Int) = n' := by omega
    rw [hd]
    clear ha hb hn hn' hd
    go_enter Try.func29, Try.ntmps29
    go_wp2
    go_ret
    exact ⟨rfl, Touch.refl _ _⟩

/-- Texts that aren't too many or long. -/
def few (l : List ByteArray) : Bool := decide ((∀ s ∈ l, s.size ≤ 300) ∧ l.length ≤ 40)
set_option maxHeartbeats 3200000 in
set_option maxRecDepth 100000 in
theorem r10_few (A : Option Addr) (l : List ByteArray) (n c : Nat) (hn : l.length = n) (w : World) (ha : Rd w A (l.flatMap fun x => [.string x])) (hl : n ≤ maxLen) (hls : ∀ s ∈ l, s.size ≤ maxLen) :
    Calls Try.prog 24 #[.slice A n c] w fun e w' => e = .returned (.bool (few l)) ∧ w = w' := by
  have HA := Lib.hid ha
  have HN := Lib.hid hn
  have HLS := Lib.hid hls
  obtain ⟨R, hR⟩ : ∃ R, R = few l := ⟨_, rfl⟩
  have HR := Lib.hid hR
  rw [← hR]
  unfold maxLen at hl
  clear ha hn hR hls
  go_enter Try.func24, Try.ntmps24
  go_wp2_with fail
  go_loopw [3] (fun i wr => ∃ k : Nat, k ≤ n ∧ i = .int .i64 k ∧ Hid (∀ j (h : j < k) (h2 : j < l.length), l[j].size ≤ 300) ∧ wr = w) (fun i _ => n - (intOf i).toNat)
  case atStart => exact ⟨0, by omega, rfl, fun j h _ => by omega, rfl⟩
  case round =>
    obtain ⟨k, hk, rfl, he, rfl⟩ := hrel
    have HE := Lib.hid he
    clear he
    by_cases hlt : k < n
    · have hk1 : k < l.length := by rw [HN.out]; exact hlt
      obtain ⟨g, off, rfl, hg, c0⟩ := str_at HA.out k hk1
      have hsz := HLS.out l[k] (List.getElem_mem hk1)
      have hmem := List.getElem_mem hk1
      obtain ⟨s, hs⟩ : ∃ s, s = l[k] := ⟨_, rfl⟩
      rw [← hs] at c0 hsz hmem
      have HS := Lib.hid hs
      have HMEM := Lib.hid hmem
      unfold maxLen at hsz
      clear hs hmem
      by_cases hbig : 300 < s.size
      · go_wp2
        go_ret
        refine ⟨?_, rfl⟩
        have hq : few l = false := by unfold few; exact decide_eq_false (fun h => by have := h.1 s HMEM.out; omega)
        rw [HR.out, hq]
        rfl
      · have hsm : s.size ≤ 300 := by omega
        go_wp2
        go_roundw
        · refine ⟨k + 1, by omega, by go_num, ?_, by first | trivial | rfl⟩
          intro j h h2
          by_cases hjk : j = k
          · subst hjk
            rw [← HS.out]
            exact hsm
          · exact HE.out.out j (by omega) h2
        · simp [intOf]; omega
    · have hkn : k = n := by omega
      subst hkn
      by_cases h40 : k ≤ 40
      · go_wp2
        go_ret
        refine ⟨?_, rfl⟩
        have hq : few l = true := by
          unfold few
          refine decide_eq_true ⟨fun s hs => ?_, by rw [HN.out]; exact h40⟩
          obtain ⟨j, hj, rfl⟩ := List.getElem_of_mem hs
          exact HE.out.out j (by rw [← HN.out]; exact hj) hj
        have hd : decide ((k : Int) ≤ 40) = true := decide_eq_true (by omega)
        rw [HR.out, hq, ← hd]
        rfl
      · go_wp2
        go_ret
        refine ⟨?_, rfl⟩
        have hq : few l = false := by unfold few; exact decide_eq_false (fun h => h40 (by rw [← HN.out]; exact h.2))
        have hd : decide ((k : Int) ≤ 40) = false := decide_eq_false (by omega)
        rw [HR.out, hq, ← hd]
        rfl
end Go.Proofs.Ytfafpcmdgjmlhaa
