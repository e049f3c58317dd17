/- frame: Size, Put. -/
import Derived.Test.YtkhppojlabajaaaFa
import Derived.Test.YtkhppojlabajaaaFb
import Derived.StillTailTactics
namespace Go.Proofs.Ytkhppojlabajaaa
open Go.RowKit
set_option linter.unusedSimpArgs false
set_option linter.unusedVariables false

theorem conv_str (w : World) (A : Option Addr) (l : List Int) (n c : Nat) (hn : l.length = n) (hr : Rd w A (u8s l)) :
    (convert 36 9 (.slice A n c)).run Try.prog w = .ok (.string (Go.strOfNums l)) w := by
  by_cases h0 : l = []
  · subst h0
    subst hn
    have : ∀ (s : ByteArray), s = ⟨#[]⟩ → (convert 36 9 (.slice A 0 c)).run Try.prog w = .ok (.string s) w := by
      rintro s rfl
      cases A with
      | none => kernel_rfl
      | some a => kernel_rfl
    exact this _ rfl
  · obtain ⟨g, off, rfl, hg, hc⟩ := hr (by intro h; simp [u8s] at h; exact h0 h)
    exact Go.run_convert_bytes_arg (P := Try.prog) _ 36 5 Try.underlying36 Try.underlying5 g off n c l hn (fun i hi => by
      apply hc
      rw [u8s, List.getElem?_map, List.getElem?_eq_getElem (by omega), List.getD_eq_getElem?_getD, List.getElem?_eq_getElem (by omega)]
      rfl) 9 Try.underlying9
theorem conv_ex (w : World) (d : ByteArray) (hd : d.size ≤ maxLen) : ∃ w' cap, (convert 9 36 (.string d)).run Try.prog w = .ok (.slice (some ⟨w.heap.size, 0, none⟩) d.size cap) w' ∧
    Touch NoS w w' ∧ Rd w' (some ⟨w.heap.size, 0, none⟩) (u8s (sb d)) ∧ d.size ≤ cap ∧ cap ≤ maxLen ∧ w.heap.size < w'.heap.size :=
  ⟨_, _, Lib.run_convert_string_bytes (P := Try.prog) w 9 36 5 d Try.underlying9 Try.underlying36 Try.underlying5,
    conv_touch _ _ _, conv_rd _ _ _, grownCap_ge _ _ _ _, grownCap_le_maxLen _ _ _ _ hd, by rw [Lib.bytesWorld_size]; omega⟩
theorem or128 (x : Int) (h0 : 0 ≤ x) (h1 : x < 128) : bits .or .u8 x 128 = x + 128 := by
  have h : ∀ n : Fin 128, bits .or .u8 (n.val : Int) 128 = (n.val : Int) + 128 := by decide +kernel
  have := h ⟨x.toNat, by omega⟩
  simp only [show ((x.toNat : Nat) : Int) = x from by omega] at this
  exact this

/-- How many bytes a frame has. -/
def size9 (f : Fr) : Nat := 2 + f.data.size + (if 65536 ≤ f.data.size then 8 else if 125 < f.data.size then 2 else 0) + (if f.masked = true then 4 else 0)
def first9 (f : Fr) : Int := f.op + (if f.fin = true then 128 else 0)
def long9 (f : Fr) : List Int := if f.masked = true then (lenB f.data.size).set 0 ((lenB f.data.size).getD 0 0 + 128) else lenB f.data.size
/-- A frame's bytes. -/
def fput (f : Fr) : List Int := first9 f :: (long9 f ++ ((if f.masked = true then f.key else []) ++ (if f.masked = true then turn f.key 0 (sb f.data) else sb f.data)))
theorem lenB_head (n : Nat) : ∃ x t, lenB n = x :: t ∧ 0 ≤ x ∧ x < 128 := by
  unfold lenB
  split
  · exact ⟨_, _, rfl, by omega, by omega⟩
  split
  · exact ⟨_, _, rfl, by omega, by omega⟩
  · exact ⟨_, _, rfl, by omega, by omega⟩
theorem fput_length (f : Fr) : (fput f).length = size9 f := by
  obtain ⟨fin, op, masked, k0, k1, k2, k3, d⟩ := f
  have hl := lenB_length d.size
  have key : ∀ (b : Bool) (n : Nat), n = (if d.size < 126 then 1 else if d.size < 65536 then 3 else 9) → 1 + n + d.size = 2 + d.size + (if 65536 ≤ d.size then 8 else if 125 < d.size then 2 else 0) := by
    intro b n hn
    by_cases h1 : d.size < 126
    · rw [if_pos h1] at hn; rw [if_neg (by omega), if_neg (by omega)]; omega
    · by_cases h2 : d.size < 65536
      · rw [if_neg h1, if_pos h2] at hn; rw [if_neg (by omega), if_pos (by omega)]; omega
      · rw [if_neg h1, if_neg h2] at hn; rw [if_pos (by omega)]; omega
  have k := key masked _ hl
  cases masked
  · simp only [fput, size9, long9, Fr.key, List.length_cons, List.length_append, Bool.false_eq_true, if_false, List.length_nil, sb_length]
    omega
  · simp only [fput, size9, long9, Fr.key, List.length_cons, List.length_append, if_true, List.length_nil, sb_length, turn_length, List.length_set]
    omega
theorem fput_in (f : Fr) (hf : f.good) (ho : 0 ≤ f.op ∧ f.op ≤ 10) : bytesIn (fput f) := by
  obtain ⟨fin, op, masked, k0, k1, k2, k3, d⟩ := f
  obtain ⟨_, hk, _⟩ := hf
  simp only at ho
  have hl := lenB_in d.size
  obtain ⟨y, t, hy, hy0, hy1⟩ := lenB_head d.size
  intro x hx
  simp only [fput, List.mem_cons, List.mem_append] at hx
  rcases hx with rfl | hx | hx | hx
  · unfold first9; simp only; split <;> omega
  · unfold long9 at hx
    simp only at hx
    split at hx
    · rw [hy] at hx hl
      simp only [List.getD_cons_zero, List.set_cons_zero, List.mem_cons] at hx
      rcases hx with rfl | hx
      · omega
      · exact hl x (by simp [hx])
    · exact hl x hx
  · split at hx
    · exact hk x hx
    · simp at hx
  · split at hx
    · exact turn_in hk _ _ (sb_in d) x hx
    · exact sb_in d x hx
end Go.Proofs.Ytkhppojlabajaaa
