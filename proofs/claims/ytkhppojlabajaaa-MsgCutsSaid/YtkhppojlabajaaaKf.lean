/- rows of frames. -/
import Derived.Test.YtkhppojlabajaaaFArg
import Derived.Test.YtkhppojlabajaaaFe
import Derived.Test.YtkhppojlabajaaaOw
import Derived.OwnWalk
namespace Go.Proofs.Ytkhppojlabajaaa
open Go.RowKit
set_option linter.unusedSimpArgs false
set_option linter.unusedVariables false

/-- The cells of frames. -/
def frs (l : List Fr) : List Value := l.flatMap Fr.cl
theorem frs_length (l : List Fr) : (frs l).length = l.length * 8 := by
  induction l with
  | nil => rfl
  | cons e l ih => simp [frs, Fr.cl] at ih ⊢; omega
theorem frs_append (a b : List Fr) : frs (a ++ b) = frs a ++ frs b := by simp [frs]
theorem frs_one (l : List Fr) : ∀ u ∈ frs l, u.oneCell' = true := by
  intro u hu
  simp only [frs, List.mem_flatMap] at hu
  obtain ⟨e, _, he⟩ := hu
  simp [Fr.cl] at he
  rcases he with rfl | rfl | rfl | rfl | rfl | rfl | rfl | rfl <;> rfl
theorem frs_single (f : Fr) : frs [f] = f.cl := by simp [frs]
theorem info_fr : (Try.prog.info? 44).map (fun i => (i.zero, i.size, i.bytes)) = some (some (.agg #[.bool false, .int .i64 0, .bool false, .int .u8 0, .int .u8 0, .int .u8 0, .int .u8 0, .string ⟨#[]⟩]), 8, 40) := by kernel_rfl
theorem own_ne {w : World} {base : Nat} {e t : TypeId} {size n : Nat} {v : Value} {xs : List Value} {b : Nat} {cs : Array Value} (h : w.ownsRow base e size v n xs) (hb : Blk w b t cs) (hne : e ≠ t) : v.ownBlock ≠ some b := fun hv => by
  obtain ⟨cs', hb'⟩ := own_type h hv
  exact hb'.ne_ hb hne rfl
theorem own_apart {w w' : World} {base base' : Nat} {e t : TypeId} {size size' n n' : Nat} {v u : Value} {xs ys : List Value} (h : w.ownsRow base e size v n xs) (hu : w.ownsRow base' t size' u n' ys) (hne : e ≠ t) (hg : w.grownBy w' u.ownBlock) : w'.ownsRow base e size v n xs :=
  own_touch (S := fun b => u.ownBlock = some b) h ((Touch.refl _ w).grown hg (fun k hk _ => hk)) fun b hb hk => by
    obtain ⟨cs, hc⟩ := own_type hu hk
    exact own_ne h hc hne hb
theorem own_far {w : World} {base g : Nat} {e t : TypeId} {size n : Nat} {v : Value} {xs : List Value} {cs : Array Value} (h : w.ownsRow base e size v n xs) (hb : Blk w g t cs) (hne : e ≠ t) (i : Nat) (u : Value) : (w.setCell ⟨g, i, none⟩ u).ownsRow base e size v n xs :=
  own_touch h ((Touch.refl (At g) w).setAt i u) fun b hb' (he : b = g) => own_ne h hb hne (he ▸ hb')

theorem flat_at {α : Type} (cells : α → List Value) (s : Nat) (hs : ∀ x, (cells x).length = s) : ∀ (l : List α) (k : Nat) (hk : k < l.length) (j : Nat), j < s → (l.flatMap cells)[k * s + j]? = (cells l[k])[j]? := by
  intro l
  induction l with
  | nil => intro k hk; simp at hk
  | cons e l ih =>
    intro k hk j hj
    rw [List.flatMap_cons]
    cases k with
    | zero => simp only [Nat.zero_mul, Nat.zero_add]; rw [List.getElem?_append_left (by rw [hs]; exact hj)]; rfl
    | succ k =>
      rw [List.getElem?_append_right (by rw [hs, Nat.succ_mul]; omega), hs, show (k + 1) * s + j - s = k * s + j from by rw [Nat.succ_mul]; omega]
      exact ih k (by simpa using hk) j hj
theorem fr_cells {w : World} {A : Option Addr} {l : List Fr} (h : Rd w A (frs l)) (k : Nat) (hk : k < l.length) : ∃ g off, A = some ⟨g, off, none⟩ ∧ g < w.heap.size ∧
    w.cell? ⟨g, off + k * 8, none⟩ = some (.bool l[k].fin) ∧ w.cell? ⟨g, off + k * 8 + 1, none⟩ = some (.int .i64 l[k].op) ∧ w.cell? ⟨g, off + k * 8 + 2, none⟩ = some (.bool l[k].masked) ∧
    w.cell? ⟨g, off + k * 8 + 3, none⟩ = some (.int .u8 l[k].k0) ∧ w.cell? ⟨g, off + k * 8 + 4, none⟩ = some (.int .u8 l[k].k1) ∧ w.cell? ⟨g, off + k * 8 + 5, none⟩ = some (.int .u8 l[k].k2) ∧ w.cell? ⟨g, off + k * 8 + 6, none⟩ = some (.int .u8 l[k].k3) ∧
    w.cell? ⟨g, off + k * 8 + 7, none⟩ = some (.string l[k].data) := by
  have hf := flat_at Fr.cl 8 (fun _ => rfl) l k hk
  obtain ⟨g, off, hA, hg, hc⟩ := h (by intro he; have := hf 0 (by omega); unfold frs at he; rw [he] at this; simp [Fr.cl] at this)
  have hc' : ∀ j (hj : j < 8) u, (Fr.cl l[k])[j]? = some u → w.cell? ⟨g, off + k * 8 + j, none⟩ = some u := fun j hj u hu => by
    rw [Nat.add_assoc]; exact hc _ u ((hf j hj).trans hu)
  exact ⟨g, off, hA, hg, hc' 0 (by omega) _ rfl, hc' 1 (by omega) _ rfl, hc' 2 (by omega) _ rfl, hc' 3 (by omega) _ rfl, hc' 4 (by omega) _ rfl, hc' 5 (by omega) _ rfl, hc' 6 (by omega) _ rfl, hc' 7 (by omega) _ rfl⟩
theorem take_succ_eq {α : Type} (l m : List α) (k : Nat) (hl : k < l.length) (hm : k < m.length) (h : l.take k = m.take k) : l.take (k + 1) = m.take (k + 1) ↔ l[k] = m[k] := by
  have e1 : l.take (k + 1) = l.take k ++ [l[k]] := by simp
  have e2 : m.take (k + 1) = m.take k ++ [m[k]] := by simp
  rw [e1, e2, h]
  constructor
  · intro h'; have := List.append_cancel_left h'; simpa using this
  · intro h'; rw [h']

end Go.Proofs.Ytkhppojlabajaaa
