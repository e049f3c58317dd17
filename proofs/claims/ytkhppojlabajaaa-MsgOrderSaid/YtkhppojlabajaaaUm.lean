/- The checker of letters (utf), as a plain function. -/
import Derived.Test.YtkhppojlabajaaaMem
namespace Go.Proofs.Ytkhppojlabajaaa
set_option linter.unusedSimpArgs false
set_option linter.unusedVariables false

structure Uc where
  left : Int
  lo : Int
  hi : Int
  count : Int
  bad : Bool
deriving DecidableEq
def Uc.new : Uc := ⟨0, 0, 0, 0, false⟩
def ubegin (c : Uc) (b : Int) : Uc × Bool :=
  if b < 128 then (⟨c.left, 128, 191, c.count + 1, c.bad⟩, true)
  else if 194 ≤ b ∧ b ≤ 223 then (⟨1, 128, 191, c.count, c.bad⟩, true)
  else if 224 ≤ b ∧ b ≤ 239 then (⟨2, if b = 224 then 160 else 128, if b = 237 then 159 else 191, c.count, c.bad⟩, true)
  else if 240 ≤ b ∧ b ≤ 244 then (⟨3, if b = 240 then 144 else 128, if b = 244 then 143 else 191, c.count, c.bad⟩, true)
  else (⟨c.left, 128, 191, c.count, c.bad⟩, false)
def utake (c : Uc) (b : Int) : Uc × Bool :=
  if c.left = 0 then ubegin c b
  else if b < c.lo ∨ c.hi < b then (c, false)
  else (⟨c.left - 1, 128, 191, if c.left = 1 then c.count + 1 else c.count, c.bad⟩, true)
def ufeed : Uc → List Int → Uc × Nat
  | c, [] => (c, 0)
  | c, b :: l => if c.bad = true then (c, 0) else if (utake c b).2 = true then ((ufeed (utake c b).1 l).1, (ufeed (utake c b).1 l).2 + 1) else ({ (utake c b).1 with bad := true }, 0)
def Uc.whole (c : Uc) : Bool := !c.bad && decide (c.left = 0)
def Uc.ok (c : Uc) : Prop := 0 ≤ c.left ∧ c.left ≤ 3 ∧ 0 ≤ c.lo ∧ c.lo ≤ 255 ∧ 0 ≤ c.hi ∧ c.hi ≤ 255 ∧ 0 ≤ c.count

theorem ubegin_ok {c : Uc} (h : c.ok) (b : Int) (hb : c.left = 0) : (ubegin c b).1.ok ∧ (ubegin c b).1.count ≤ c.count + 1 ∧ c.count ≤ (ubegin c b).1.count := by
  unfold ubegin Uc.ok at *
  split
  · simp; omega
  · split
    · simp; omega
    · split
      · simp; refine ⟨⟨?_, ?_, ?_, ?_, ?_⟩, ?_⟩ <;> (try split) <;> omega
      · split
        · simp; refine ⟨⟨?_, ?_, ?_, ?_, ?_⟩, ?_⟩ <;> (try split) <;> omega
        · simp; omega
theorem utake_ok {c : Uc} (h : c.ok) (b : Int) : (utake c b).1.ok ∧ (utake c b).1.count ≤ c.count + 1 ∧ c.count ≤ (utake c b).1.count := by
  unfold utake
  split
  · rename_i h0; exact ubegin_ok h b h0
  · split
    · exact ⟨h, by show c.count ≤ _; omega, Int.le_refl _⟩
    · unfold Uc.ok at *
      simp
      split <;> omega
theorem ufeed_ok (l : List Int) : ∀ {c : Uc}, c.ok → (ufeed c l).1.ok ∧ (ufeed c l).1.count ≤ c.count + l.length ∧ c.count ≤ (ufeed c l).1.count ∧ (ufeed c l).2 ≤ l.length := by
  induction l with
  | nil => intro c h; simp [ufeed, h]
  | cons b l ih =>
    intro c h
    unfold ufeed
    split
    · exact ⟨h, by simp; omega, by simp, by simp⟩
    · obtain ⟨h1, h2, h3⟩ := utake_ok h b
      split
      · obtain ⟨r1, r2, r3, r4⟩ := ih h1
        refine ⟨r1, ?_, ?_, ?_⟩ <;> simp <;> omega
      · refine ⟨?_, ?_, ?_, ?_⟩
        · unfold Uc.ok at *; simpa using h1
        · simp; omega
        · simpa using h3
        · simp
end Go.Proofs.Ytkhppojlabajaaa
