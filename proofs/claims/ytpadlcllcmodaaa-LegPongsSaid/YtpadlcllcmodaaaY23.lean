/- close: Valid, Across; ref11: Valid, Across. | The checker of letters (utf), as a plain function. -/
import Derived.Test.YtpadlcllcmodaaaY02
import Derived.Test.YtpadlcllcmodaaaY01
/- close: Valid, Across; ref11: Valid, Across. -/
namespace Go.Proofs.Ytpadlcllcmodaaa
open Go.RowKit
set_option linter.unusedSimpArgs false
set_option linter.unusedVariables false

/-- May a code be sent? -/
def valid11 (n : Int) : Bool := decide ((1000 ≤ n ∧ n ≤ 1003) ∨ (1007 ≤ n ∧ n ≤ 1011) ∨ (3000 ≤ n ∧ n ≤ 4999))
set_option maxRecDepth 100000 in
theorem c_in (a b n : Int) (r : Bool) (hr : decide (a ≤ n ∧ n ≤ b) = r) (g : Nat) (w : World) (hb : Blk w g 3 #[.int .i64 n]) :
    Calls Try.prog 79 #[.int .i64 a, .int .i64 b, .pointer (some ⟨g, 0, none⟩)] w fun e w' => e = .returned (.bool r) ∧ w = w' := by
  have b0 := hb.cell 0
  simp at b0
  have hlt := hb.lt
  clear hb
  by_cases h : a ≤ n
  · by_cases h2 : n ≤ b
    · obtain rfl : r = true := by rw [← hr]; exact decide_eq_true ⟨h, h2⟩
      clear hr
      go_enter Try.func79, Try.ntmps79
      go_wp2
      go_ret
      exact ⟨rfl, rfl⟩
    · obtain rfl : r = false := by rw [← hr]; exact decide_eq_false (fun h' => h2 h'.2)
      clear hr
      go_enter Try.func79, Try.ntmps79
      go_wp2
      go_ret
      exact ⟨rfl, rfl⟩
  · obtain rfl : r = false := by rw [← hr]; exact decide_eq_false (fun h' => h h'.1)
    clear hr
    go_enter Try.func79, Try.ntmps79
    go_wp2
    go_ret
    exact ⟨rfl, rfl⟩

set_option maxHeartbeats 1600000 in
set_option maxRecDepth 100000 in
theorem c_valid (n : Int) (w : World) : Calls Try.prog 57 #[.int .i64 n] w fun e w' => e = .returned (.bool (valid11 n)) ∧ Touch NoS w w' := by
  have hmf : ∀ (fn : Fn) (first cap : Array Value) (w : World), (Instr.makeFunc fn first cap).run Try.prog w = .ok (.func fn first cap) w := fun _ _ _ _ => rfl
  have HI := Lib.hid (fun a b r hr => c_in a b n r hr w.heap.size (w.alloc (.cells #[.int .i64 n] 3)) (Blk.new _ _ _))
  have HT : Hid (Touch NoS w (w.alloc (.cells #[.int .i64 n] 3))) := (Touch.refl _ _).alloc _
  by_cases h1 : 1000 ≤ n ∧ n ≤ 1003
  · rw [show valid11 n = true from decide_eq_true (.inl h1)]
    have H1 := Lib.hid (decide_eq_true h1)
    clear h1
    go_enter Try.func57, Try.ntmps57
    go_wp2_with fail
    refine (HI.out 1000 1003 true H1.out).mono ?_
    rintro e w2 ⟨rfl, rfl⟩
    go_wp2
    go_ret
    exact ⟨rfl, HT.out⟩
  by_cases h2 : 1007 ≤ n ∧ n ≤ 1011
  · rw [show valid11 n = true from decide_eq_true (.inr (.inl h2))]
    have H1 := Lib.hid (decide_eq_false h1)
    have H2 := Lib.hid (decide_eq_true h2)
    clear h1 h2
    go_enter Try.func57, Try.ntmps57
    go_wp2_with fail
    refine (HI.out 1000 1003 false H1.out).mono ?_
    rintro e w2 ⟨rfl, rfl⟩
    go_wp2_with fail
    refine (HI.out 1007 1011 true H2.out).mono ?_
    rintro e w2 ⟨rfl, rfl⟩
    go_wp2
    go_ret
    exact ⟨rfl, HT.out⟩
  obtain ⟨r, hr⟩ : ∃ r, r = decide (3000 ≤ n ∧ n ≤ 4999) := ⟨_, rfl⟩
  have hv : valid11 n = r := by
    unfold valid11
    rw [hr]
    by_cases h3 : 3000 ≤ n ∧ n ≤ 4999
    · rw [decide_eq_true h3, decide_eq_true (.inr (.inr h3))]
    · rw [decide_eq_false h3, decide_eq_false (by omega)]
  rw [hv]
  have H1 := Lib.hid (decide_eq_false h1)
  have H2 := Lib.hid (decide_eq_false h2)
  have H3 := Lib.hid hr.symm
  clear h1 h2 hr hv
  go_enter Try.func57, Try.ntmps57
  go_wp2_with fail
  refine (HI.out 1000 1003 false H1.out).mono ?_
  rintro e w2 ⟨rfl, rfl⟩
  go_wp2_with fail
  refine (HI.out 1007 1011 false H2.out).mono ?_
  rintro e w2 ⟨rfl, rfl⟩
  go_wp2_with fail
  refine (HI.out 3000 4999 r H3.out).mono ?_
  rintro e w2 ⟨rfl, rfl⟩
  go_wp2
  go_ret
  exact ⟨rfl, HT.out⟩

end Go.Proofs.Ytpadlcllcmodaaa
/- The checker of letters (utf), as a plain function. -/
namespace Go.Proofs.Ytpadlcllcmodaaa
set_option linter.unusedSimpArgs false
set_option linter.unusedVariables false

structure Uc where
  left : Int
  lo : Int
  hi : Int
  count : Int
  bad : Bool
deriving DecidableEq
def Uc.new : Uc := ⟨0, 0, 0, 0, false⟩
def ubegin (c : Uc) (b : Int) : Uc × Bool :=
  if b < 128 then (⟨c.left, 128, 191, c.count + 1, c.bad⟩, true)
  else if 194 ≤ b ∧ b ≤ 223 then (⟨1, 128, 191, c.count, c.bad⟩, true)
  else if 224 ≤ b ∧ b ≤ 239 then (⟨2, if b = 224 then 160 else 128, if b = 237 then 159 else 191, c.count, c.bad⟩, true)
  else if 240 ≤ b ∧ b ≤ 244 then (⟨3, if b = 240 then 144 else 128, if b = 244 then 143 else 191, c.count, c.bad⟩, true)
  else (⟨c.left, 128, 191, c.count, c.bad⟩, false)
def utake (c : Uc) (b : Int) : Uc × Bool :=
  if c.left = 0 then ubegin c b
  else if b < c.lo ∨ c.hi < b then (c, false)
  else (⟨c.left - 1, 128, 191, if c.left = 1 then c.count + 1 else c.count, c.bad⟩, true)
def ufeed : Uc → List Int → Uc × Nat
  | c, [] => (c, 0)
  | c, b :: l => if c.bad = true then (c, 0) else if (utake c b).2 = true then ((ufeed (utake c b).1 l).1, (ufeed (utake c b).1 l).2 + 1) else ({ (utake c b).1 with bad := true }, 0)
def Uc.whole (c : Uc) : Bool := !c.bad && decide (c.left = 0)
def Uc.ok (c : Uc) : Prop := 0 ≤ c.left ∧ c.left ≤ 3 ∧ 0 ≤ c.lo ∧ c.lo ≤ 255 ∧ 0 ≤ c.hi ∧ c.hi ≤ 255 ∧ 0 ≤ c.count

theorem ubegin_ok {c : Uc} (h : c.ok) (b : Int) (hb : c.left = 0) : (ubegin c b).1.ok ∧ (ubegin c b).1.count ≤ c.count + 1 ∧ c.count ≤ (ubegin c b).1.count := by
  unfold ubegin Uc.ok at *
  split
  · simp; omega
  · split
    · simp; omega
    · split
      · simp; refine ⟨⟨?_, ?_, ?_, ?_, ?_⟩, ?_⟩ <;> (try split) <;> omega
      · split
        · simp; refine ⟨⟨?_, ?_, ?_, ?_, ?_⟩, ?_⟩ <;> (try split) <;> omega
        · simp; omega
theorem utake_ok {c : Uc} (h : c.ok) (b : Int) : (utake c b).1.ok ∧ (utake c b).1.count ≤ c.count + 1 ∧ c.count ≤ (utake c b).1.count := by
  unfold utake
  split
  · rename_i h0; exact ubegin_ok h b h0
  · split
    · exact ⟨h, by show c.count ≤ _; omega, Int.le_refl _⟩
    · unfold Uc.ok at *
      simp
      split <;> omega
theorem ufeed_ok (l : List Int) : ∀ {c : Uc}, c.ok → (ufeed c l).1.ok ∧ (ufeed c l).1.count ≤ c.count + l.length ∧ c.count ≤ (ufeed c l).1.count ∧ (ufeed c l).2 ≤ l.length := by
  induction l with
  | nil => intro c h; simp [ufeed, h]
  | cons b l ih =>
    intro c h
    unfold ufeed
    split
    · exact ⟨h, by simp; omega, by simp, by simp⟩
    · obtain ⟨h1, h2, h3⟩ := utake_ok h b
      split
      · obtain ⟨r1, r2, r3, r4⟩ := ih h1
        refine ⟨r1, ?_, ?_, ?_⟩ <;> simp <;> omega
      · refine ⟨?_, ?_, ?_, ?_⟩
        · unfold Uc.ok at *; simpa using h1
        · simp; omega
        · simpa using h3
        · simp
end Go.Proofs.Ytpadlcllcmodaaa
