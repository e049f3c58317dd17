/- msg: plain laws. -/
import Derived.Test.YtkhppojlabajaaaGg
namespace Go.Proofs.Ytkhppojlabajaaa
set_option linter.unusedSimpArgs false
set_option linter.unusedVariables false

theorem form_data {f : Fr} (h : f.op = 0 ∨ f.op = 1 ∨ f.op = 2) (hk : f.masked = true ∨ f.key = [0, 0, 0, 0]) : check9 f ≠ 91 ∧ f.op ≠ 8 ∧ control9 f.op = false := by
  have hc : control9 f.op = false := decide_eq_false (by omega)
  refine ⟨?_, by omega, hc⟩
  have hf : form9 f = true := by
    have hk' : known9 f.op = true := decide_eq_true (by omega)
    unfold form9
    rw [hk', hc]
    rcases hk with h | h
    · rw [h]; simp
    · rw [h]; simp
  unfold check9
  rw [if_pos hf]
  split <;> omega
theorem form_ctl {f : Fr} (h : f.op = 9 ∨ f.op = 10) (hfin : f.fin = true) (hz : f.data.size ≤ 125) (hk : f.masked = true ∨ f.key = [0, 0, 0, 0]) : check9 f ≠ 91 ∧ f.op ≠ 8 ∧ control9 f.op = true := by
  have hc : control9 f.op = true := decide_eq_true (by omega)
  refine ⟨?_, by omega, hc⟩
  have hf : form9 f = true := by
    have hk' : known9 f.op = true := decide_eq_true (by omega)
    have hz' : decide (125 < f.data.size) = false := decide_eq_false (by omega)
    unfold form9
    rw [hk', hc, hfin, hz']
    rcases hk with h | h
    · rw [h]; simp
    · rw [h]; simp
  unfold check9
  rw [if_pos hf]
  split <;> omega
theorem mt_data {c : Mc} {f : Fr} (he : c.err = 0) (ho : c.over = false) (h : f.op = 0 ∨ f.op = 1 ∨ f.op = 2) (hk : f.masked = true ∨ f.key = [0, 0, 0, 0]) : mtake c f = mdata c f := by
  obtain ⟨h1, h2, h3⟩ := form_data h hk
  unfold mtake
  rw [if_neg (fun h => h he), if_neg (by rw [ho]; simp), if_neg h1, if_neg h2, if_neg (by rw [h3]; simp)]
theorem mt_ctl {c : Mc} {f : Fr} (he : c.err = 0) (ho : c.over = false) (h : f.op = 9 ∨ f.op = 10) (hfin : f.fin = true) (hz : f.data.size ≤ 125) (hk : f.masked = true ∨ f.key = [0, 0, 0, 0]) : mtake c f = (c, ⟨f.op, 0, f.data⟩, true, 0) := by
  obtain ⟨h1, h2, h3⟩ := form_ctl h hfin hz hk
  unfold mtake
  rw [if_neg (fun h => h he), if_neg (by rw [ho]; simp), if_neg h1, if_neg h2, if_pos h3]
theorem mt_still {c : Mc} (f : Fr) (h : c.err ≠ 0 ∨ c.over = true) : mtake c f = (c, Ev.zero, false, c.err) := by
  unfold mtake
  by_cases he : c.err = 0
  · rw [if_neg (fun h => h he), if_pos (by rcases h with h | h; exact absurd he h; exact h), he]
  · rw [if_pos he]
/-- Behind an error, or an end, nothing is kept. -/
def Mc.tidy (c : Mc) : Prop := (c.err = 0 ∧ c.over = false) ∨ c.part = ⟨#[]⟩
theorem mgo_tidy {c : Mc} (f : Fr) (he : c.err = 0) (ho : c.over = false) : (mgo c f).1.tidy := by
  unfold mgo
  split
  · exact .inr rfl
  split
  · split
    · exact .inr rfl
    split
    · exact .inl ⟨he, ho⟩
    · exact .inr rfl
  split
  · exact .inl ⟨he, ho⟩
  · exact .inr rfl
theorem mtake_tidy {c : Mc} (f : Fr) (h : c.tidy) : (mtake c f).1.tidy := by
  unfold mtake
  split
  · exact h
  rename_i h1
  have he : c.err = 0 := by
    by_cases h : c.err = 0
    · exact h
    · exact absurd h h1
  split
  · exact h
  rename_i h2
  have ho : c.over = false := by simpa using h2
  split
  · exact .inr rfl
  split
  · unfold mend
    split
    · exact .inr rfl
    · exact .inr rfl
  split
  · exact h
  · unfold mdata
    split
    · split
      · exact .inr rfl
      · exact mgo_tidy f he ho
    · split
      · exact mgo_tidy (c := { c with op := f.op, u := Uc.new }) f he ho
      · exact .inr rfl
theorem mtake_most (c : Mc) (f : Fr) : (mtake c f).1.most = c.most := by
  have hgo : ∀ (c : Mc) (f : Fr), (mgo c f).1.most = c.most := fun c f => by
    unfold mgo
    split
    · rfl
    split
    · split
      · rfl
      split <;> rfl
    split <;> rfl
  unfold mtake
  split
  · rfl
  split
  · rfl
  split
  · rfl
  split
  · unfold mend
    split <;> rfl
  split
  · rfl
  · unfold mdata
    split
    · split
      · rfl
      · exact hgo c f
    · split
      · exact hgo _ f
      · rfl
/-- Masks don't matter. -/
theorem mtake_mask (c : Mc) (fin : Bool) (op : Int) (k0 k1 k2 k3 : Int) (d : ByteArray) : mtake c ⟨fin, op, true, k0, k1, k2, k3, d⟩ = mtake c ⟨fin, op, false, 0, 0, 0, 0, d⟩ := by
  have hf : form9 ⟨fin, op, true, k0, k1, k2, k3, d⟩ = form9 ⟨fin, op, false, 0, 0, 0, 0, d⟩ := by
    unfold form9
    simp [Fr.key]
  have hc : check9 ⟨fin, op, true, k0, k1, k2, k3, d⟩ = check9 ⟨fin, op, false, 0, 0, 0, 0, d⟩ := by
    unfold check9
    rw [hf]
  unfold mtake
  rw [hc]
  rfl
/-- The begun message of another kind than letters: more of it, or its end. -/
theorem mgo_two (most : Int) (p : ByteArray) (u : Uc) (fin : Bool) (op : Int) (mk : Bool) (k0 k1 k2 k3 : Int) (d : ByteArray) : mgo ⟨most, 2, p, u, false, 0⟩ ⟨fin, op, mk, k0, k1, k2, k3, d⟩ =
    if most < p.size + d.size then (⟨most, 0, ⟨#[]⟩, u, false, 121⟩, Ev.zero, false, 121) else if fin = false then (⟨most, 2, p ++ d, u, false, 0⟩, Ev.zero, false, 0) else (⟨most, 0, ⟨#[]⟩, u, false, 0⟩, ⟨2, 0, p ++ d⟩, true, 0) := by
  unfold mgo
  simp only
  rw [if_neg (show ¬ ((2 : Int) = 1) by omega)]
  rfl
theorem empty_append (d : ByteArray) : (⟨#[]⟩ : ByteArray) ++ d = d := by
  apply ByteArray.ext
  simp
theorem mt_begin (most : Int) (u : Uc) (fin : Bool) (d : ByteArray) : mtake ⟨most, 0, ⟨#[]⟩, u, false, 0⟩ ⟨fin, 2, false, 0, 0, 0, 0, d⟩ =
    if most < d.size then (⟨most, 0, ⟨#[]⟩, Uc.new, false, 121⟩, Ev.zero, false, 121) else if fin = false then (⟨most, 2, d, Uc.new, false, 0⟩, Ev.zero, false, 0) else (⟨most, 0, ⟨#[]⟩, Uc.new, false, 0⟩, ⟨2, 0, d⟩, true, 0) := by
  rw [mt_data rfl rfl (.inr (.inr rfl)) (.inr rfl)]
  unfold mdata
  rw [if_neg (show ¬ ((2 : Int) = 0) by omega), if_pos rfl]
  rw [mgo_two, empty_append]
  have : ((⟨#[]⟩ : ByteArray).size : Int) + d.size = d.size := by
    show (0 : Int) + d.size = d.size
    omega
  rw [this]
theorem mt_more (most : Int) (p : ByteArray) (u : Uc) (fin : Bool) (d : ByteArray) : mtake ⟨most, 2, p, u, false, 0⟩ ⟨fin, 0, false, 0, 0, 0, 0, d⟩ =
    if most < p.size + d.size then (⟨most, 0, ⟨#[]⟩, u, false, 121⟩, Ev.zero, false, 121) else if fin = false then (⟨most, 2, p ++ d, u, false, 0⟩, Ev.zero, false, 0) else (⟨most, 0, ⟨#[]⟩, u, false, 0⟩, ⟨2, 0, p ++ d⟩, true, 0) := by
  rw [mt_data rfl rfl (.inl rfl) (.inr rfl)]
  unfold mdata
  rw [if_pos rfl, if_neg (show ¬ ((2 : Int) = 0) by omega), mgo_two]
end Go.Proofs.Ytkhppojlabajaaa
