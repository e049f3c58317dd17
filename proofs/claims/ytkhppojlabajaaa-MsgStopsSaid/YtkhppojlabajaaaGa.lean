/- msg: the machine, as a plain function. -/
import Derived.Test.YtkhppojlabajaaaEv
import Derived.Test.YtkhppojlabajaaaCc
import Derived.Test.YtkhppojlabajaaaFa
namespace Go.Proofs.Ytkhppojlabajaaa
set_option linter.unusedSimpArgs false
set_option linter.unusedVariables false

/-- What frames have come to: the bound, the message's kind that is begun (0: none), its bytes, its checker, whether an end came, what is wrong. -/
structure Mc where
  most : Int
  op : Int
  part : ByteArray
  u : Uc
  over : Bool
  err : Int
def Mc.new (most : Int) : Mc := ⟨most, 0, ⟨#[]⟩, Uc.new, false, 0⟩
def Mc.stop (c : Mc) (e : Int) : Mc := { c with err := e, op := 0, part := ⟨#[]⟩ }
/-- The data of a message's frame, once it is begun. -/
def mgo (c : Mc) (f : Fr) : Mc × Ev × Bool × Int :=
  if c.most < c.part.size + f.data.size then (c.stop 121, Ev.zero, false, 121)
  else if c.op = 1 then
    (if ((ufeed c.u (sb f.data)).1.bad || (f.fin && !(ufeed c.u (sb f.data)).1.whole)) = true then ({ c with u := (ufeed c.u (sb f.data)).1 }.stop 122, Ev.zero, false, 122)
     else if f.fin = false then ({ c with u := (ufeed c.u (sb f.data)).1, part := c.part ++ f.data }, Ev.zero, false, 0)
     else ({ c with u := (ufeed c.u (sb f.data)).1 }.stop 0, ⟨c.op, 0, c.part ++ f.data⟩, true, 0))
  else if f.fin = false then ({ c with part := c.part ++ f.data }, Ev.zero, false, 0)
  else (c.stop 0, ⟨c.op, 0, c.part ++ f.data⟩, true, 0)
def mdata (c : Mc) (f : Fr) : Mc × Ev × Bool × Int :=
  if f.op = 0 then (if c.op = 0 then (c.stop 120, Ev.zero, false, 120) else mgo c f)
  else if c.op = 0 then mgo { c with op := f.op, u := Uc.new } f else (c.stop 120, Ev.zero, false, 120)
def mend (c : Mc) (f : Fr) : Mc × Ev × Bool × Int :=
  if (cget f.data).2.2 = 0 then ({ c with over := true }.stop 0, ⟨8, (cget f.data).1, (cget f.data).2.1⟩, true, 0) else (c.stop (cget f.data).2.2, Ev.zero, false, (cget f.data).2.2)
def mtake (c : Mc) (f : Fr) : Mc × Ev × Bool × Int :=
  if c.err ≠ 0 then (c, Ev.zero, false, c.err)
  else if c.over = true then (c, Ev.zero, false, 0)
  else if check9 f = 91 then (c.stop 120, Ev.zero, false, 120)
  else if f.op = 8 then mend c f
  else if control9 f.op = true then (c, ⟨f.op, 0, f.data⟩, true, 0)
  else mdata c f
/-- What always holds of one. -/
structure Mc.good (c : Mc) : Prop where
  most : 1 ≤ c.most ∧ c.most ≤ 1048576
  op : c.op = 0 ∨ c.op = 1 ∨ c.op = 2
  ok : c.u.ok
  count : c.op = 1 → c.u.count ≤ c.part.size
  size : (c.part.size : Int) ≤ c.most
theorem Mc.new_good (most : Int) (h1 : 1 ≤ most) (h2 : most ≤ 1048576) : (Mc.new most).good := ⟨⟨h1, h2⟩, .inl rfl, new_ok, (fun h => (by cases h)), by show (0 : Int) ≤ most; omega⟩
theorem Mc.good.stop {c : Mc} (h : c.good) (e : Int) : (c.stop e).good := ⟨h.most, .inl rfl, h.ok, (fun h => (by cases h)), by have := h.most; show (0 : Int) ≤ c.most; omega⟩
theorem mgo_good {c : Mc} (h : c.good) (f : Fr) : (mgo c f).1.good := by
  unfold mgo
  split
  · exact h.stop _
  rename_i hs
  have hz : (c.part ++ f.data).size = c.part.size + f.data.size := ByteArray.size_append
  obtain ⟨k1, k2, k3, k4⟩ := ufeed_ok (sb f.data) h.ok
  split
  · rename_i h1
    split
    · exact ⟨h.most, .inl rfl, k1, (fun h => (by cases h)), by have := h.most; show (0 : Int) ≤ c.most; omega⟩
    · split
      · exact ⟨h.most, h.op, k1, fun _ => by have := h.count h1; rw [sb_length] at k2; show (ufeed c.u (sb f.data)).1.count ≤ ((c.part ++ f.data).size : Nat); omega, by show ((c.part ++ f.data).size : Int) ≤ c.most; omega⟩
      · exact ⟨h.most, .inl rfl, k1, (fun h => (by cases h)), by have := h.most; show (0 : Int) ≤ c.most; omega⟩
  · split
    · rename_i h1 _
      exact ⟨h.most, h.op, h.ok, fun h2 => absurd h2 h1, by show ((c.part ++ f.data).size : Int) ≤ c.most; omega⟩
    · exact h.stop _
theorem mdata_good {c : Mc} (h : c.good) (f : Fr) (hf : f.op = 0 ∨ f.op = 1 ∨ f.op = 2) : (mdata c f).1.good := by
  unfold mdata
  split
  · split
    · exact h.stop _
    · exact mgo_good h f
  · split
    · rename_i h0
      exact mgo_good (c := { c with op := f.op, u := Uc.new }) ⟨h.most, hf, new_ok, fun _ => by show (0 : Int) ≤ _; omega, h.size⟩ f
    · exact h.stop _
theorem mend_good {c : Mc} (h : c.good) (f : Fr) : (mend c f).1.good := by
  unfold mend
  split
  · exact ⟨h.most, .inl rfl, h.ok, (fun h => (by cases h)), by have := h.most; show (0 : Int) ≤ c.most; omega⟩
  · exact h.stop _
theorem check_op {f : Fr} (h : check9 f ≠ 91) : (8 ≤ f.op ∧ f.op ≤ 10) ∨ (0 ≤ f.op ∧ f.op ≤ 2) := by
  have hf : form9 f = true := by
    unfold check9 at h
    split at h
    · assumption
    · exact absurd rfl h
  unfold form9 at hf
  simp only [Bool.and_eq_true] at hf
  have := hf.1.1
  unfold known9 at this
  exact of_decide_eq_true this
theorem mtake_good {c : Mc} (h : c.good) (f : Fr) : (mtake c f).1.good := by
  unfold mtake
  split
  · exact h
  split
  · exact h
  split
  · exact h.stop _
  rename_i h1
  split
  · exact mend_good h f
  split
  · exact h
  rename_i h2
  refine mdata_good h f ?_
  have := check_op h1
  have h3 : ¬ (8 ≤ f.op ∧ f.op ≤ 10) := fun h => h2 (decide_eq_true h)
  omega
end Go.Proofs.Ytkhppojlabajaaa
