/- mask: number. -/
import Derived.Test.YtkhppojlabajaaaMa
namespace Go.Proofs.Ytkhppojlabajaaa
open Go.RowKit
set_option linter.unusedSimpArgs false
set_option linter.unusedVariables false

/-- A number's lowest m bytes, the highest first. -/
def be (m n : Nat) : List Int := (List.range m).map fun i => ((n / 256 ^ (m - 1 - i) % 256 : Nat) : Int)
theorem be_length (m n : Nat) : (be m n).length = m := by simp [be]
theorem be_in (m n : Nat) : bytesIn (be m n) := by
  intro x hx
  simp [be] at hx
  obtain ⟨i, _, rfl⟩ := hx
  omega
/-- A row that is filled from its end on. -/
def partR (vs : List Value) (z : Value) (k : Nat) : Array Value := (List.replicate (vs.length - k) z ++ vs.drop (vs.length - k)).toArray
theorem partR_set (vs : List Value) (z : Value) (k : Nat) (hk : k < vs.length) : (partR vs z k).setIfInBounds (vs.length - 1 - k) (vs[vs.length - 1 - k]'(by omega)) = partR vs z (k + 1) := by
  unfold partR
  apply Array.ext'
  simp only [Array.toList_setIfInBounds]
  apply List.ext_getElem
  · simp only [List.length_set, List.length_append, List.length_replicate, List.length_drop]; omega
  · intro i h1 h2
    rw [List.getElem_set]
    by_cases hi : vs.length - 1 - k = i
    · subst hi
      rw [if_pos rfl, List.getElem_append_right (by simp; omega), List.getElem_drop]
      congr 1
      try (simp only [List.length_replicate]; omega)
    · rw [if_neg hi]
      by_cases hlt : i < vs.length - (k + 1)
      · rw [List.getElem_append_left (by simp; omega), List.getElem_append_left (by simp; omega), List.getElem_replicate, List.getElem_replicate]
      · simp only [List.length_append, List.length_replicate, List.length_drop, List.length_set] at h1 h2
        rw [List.getElem_append_right (by simp; omega), List.getElem_append_right (by simp; omega), List.getElem_drop, List.getElem_drop]
        congr 1
        simp only [List.length_replicate]
        omega
theorem partR_zero (vs : List Value) (z : Value) : partR vs z 0 = (List.replicate vs.length z).toArray := by simp [partR]
theorem partR_all (vs : List Value) (z : Value) : partR vs z vs.length = vs.toArray := by simp [partR]
theorem partR_get (vs : List Value) (z : Value) (k : Nat) (hk : k < vs.length) : (partR vs z k)[vs.length - 1 - k]? = some z := by
  simp only [partR, List.getElem?_toArray]
  rw [List.getElem?_append_left (by simp; omega), List.getElem?_replicate, if_pos (by omega)]

set_option maxHeartbeats 1600000 in
set_option maxRecDepth 100000 in
theorem m_number (n m : Nat) (hn : n < 18446744073709551616) (hm : m ≤ 8) (w : World) :
    Calls Try.prog 69 #[.int .u64 n, .int .i64 m] w fun e w' =>
      ∃ g, e = .returned (.slice (some ⟨g, 0, none⟩) m m) ∧ w.heap.size ≤ g ∧ Blk w' g 5 (u8s (be m n)).toArray ∧ Touch NoS w w' := by
  have hmk := fun W => make_u8 W m (by omega)
  go_enter Try.func69, Try.ntmps69
  go_wp2_with fail
  have hvl : (u8s (be m n)).length = m := by simp [u8s, be_length]
  obtain ⟨vs, hvs⟩ : ∃ vs, vs = u8s (be m n) := ⟨_, rfl⟩
  rw [← hvs] at hvl
  have HV := Lib.hid hvs
  have HVL := Lib.hid hvl
  clear hvs hvl hmk
  go_loopw [10] (fun i wr => ∃ k : Nat, k ≤ m ∧ i = .int .i64 k ∧ Blk wr w.heap.size 5 (partR vs (.int .u8 0) k) ∧ Touch NoS w wr) (fun i _ => m - (intOf i).toNat)
  case atStart =>
    refine ⟨0, by omega, rfl, ?_, (Touch.refl _ _).alloc _⟩
    rw [partR_zero, HVL.out]
    have := Blk.new w 5 (List.replicate m (.int .u8 0)).toArray
    simpa using this
  case round =>
    obtain ⟨k, hk, rfl, hob, ht⟩ := hrel
    by_cases hlt : k < m
    · have hoc : wr.cell? ⟨w.heap.size, m - 1 - k, none⟩ = some (.int .u8 0) := by
        rw [hob.cell, ← HVL.out]
        exact partR_get vs _ k (by rw [HVL.out]; exact hlt)
      have hof := hob.frozen (m - 1 - k)
      have hlt' : (k : Int) < m := by omega
      have HOB := Lib.hid hob
      have HT := Lib.hid ht
      have hl1 : w.heap.size < wr.heap.size := hob.lt
      clear hob ht
      go_wp2_with fail
      have hvk : vs[vs.length - 1 - k]'(by rw [HVL.out]; omega) = .int .u8 ((n : Int) / 2 ^ (8 * k) % 256) := by
        have e := HV.out
        subst e
        simp only [u8s, be, List.getElem_map, List.getElem_range, List.length_map, List.length_range]
        rw [show m - 1 - (m - 1 - k) = k from by omega, show (256 : Nat) = 2 ^ 8 from rfl, ← Nat.pow_mul]
        simp
      go_roundw
      · refine ⟨k + 1, by omega, by go_num, ?_, HT.out.setNew (by simp) _⟩
        have := HOB.out.set_ (vs.length - 1 - k) (.int .u8 ((n : Int) / 2 ^ (8 * k) % 256))
        have h3 := partR_set vs (.int .u8 0) k (by rw [HVL.out]; exact hlt)
        rw [hvk] at h3
        rw [h3, HVL.out] at this
        exact this
      · simp [intOf]; omega
    · have hkl : k = m := by omega
      subst hkl
      have hob2 : Blk wr w.heap.size 5 vs.toArray := by
        have h2 := partR_all vs (.int .u8 0)
        rw [HVL.out] at h2
        rw [← h2]
        exact hob
      have HOB := Lib.hid hob2
      have HT := Lib.hid ht
      clear hob ht hob2
      go_wp2
      go_ret
      exact ⟨_, rfl, by omega, by rw [← HV.out]; exact HOB.out, HT.out⟩
theorem m_number_ (n m : Nat) (mi : Int) (hmi : (m : Int) = mi) (hn : n < 18446744073709551616) (hm : m ≤ 8) (w : World) :
    Calls Try.prog 69 #[.int .u64 n, .int .i64 mi] w fun e w' =>
      ∃ g, e = .returned (.slice (some ⟨g, 0, none⟩) m m) ∧ w.heap.size ≤ g ∧ Blk w' g 5 (u8s (be m n)).toArray ∧ Touch NoS w w' := by
  subst hmi
  exact m_number n m hn hm w
end Go.Proofs.Ytkhppojlabajaaa
