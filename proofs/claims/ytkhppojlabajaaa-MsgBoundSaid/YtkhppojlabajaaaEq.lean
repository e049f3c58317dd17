/- Events: equality, rows of them. -/
import Derived.Test.YtkhppojlabajaaaEv
import Derived.Test.YtkhppojlabajaaaKf
namespace Go.Proofs.Ytkhppojlabajaaa
open Go.RowKit
set_option linter.unusedSimpArgs false
set_option linter.unusedVariables false

def Ev.same (a b : Ev) : Bool := decide (a.op = b.op ∧ a.code = b.code ∧ a.data = b.data)
theorem Ev.same_iff (a b : Ev) : a.same b = true ↔ a = b := by
  obtain ⟨o, c, d⟩ := a
  obtain ⟨o', c', d'⟩ := b
  simp [Ev.same]
theorem Ev.same_self (a : Ev) : a.same a = true := (Ev.same_iff a a).2 rfl
instance : DecidableEq Ev := fun a b => decidable_of_iff (a.same b = true) (Ev.same_iff a b)
theorem ev_part0 (w : World) (e : Ev) : (Go.part 3 #[.int .i64 e.op, .int .i64 e.code, .string e.data] 0).run Try.prog w = .ok (.int .i64 e.op) w := by kernel_rfl
theorem ev_part1 (w : World) (e : Ev) : (Go.part 3 #[.int .i64 e.op, .int .i64 e.code, .string e.data] 1).run Try.prog w = .ok (.int .i64 e.code) w := by kernel_rfl
theorem ev_part2 (w : World) (e : Ev) : (Go.part 9 #[.int .i64 e.op, .int .i64 e.code, .string e.data] 2).run Try.prog w = .ok (.string e.data) w := by kernel_rfl
theorem ev_equal (w : World) (f g : Ev) : (Op.equalIn 10000 57 f.val g.val).run Try.prog w = .ok (f.same g) w := by
  unfold Ev.val
  rw [run_equalIn_struct w 9999 57 #[.int .i64 f.op, .int .i64 f.code, .string f.data] #[.int .i64 g.op, .int .i64 g.code, .string g.data] (by kernel_rfl) (by kernel_rfl)]
  simp only [Program.fieldsOf, Try.underlying57]
  simp only [Op.eqFields, Sem.run_bind, Sem.run_ite, ne_eq, String.reduceEq, not_false_eq_true, if_true, ev_part0, ev_part1, ev_part2, Result.andThen_ok, Sem.run_pure,
    run_equalIn_int w 9998 3 .i64 .i64 _ _ Try.underlying3, run_equalIn_string w 9998 9 _ _ Try.underlying9, str_eq]
  unfold Ev.same
  by_cases h0 : f.op = g.op
  · by_cases h1 : f.code = g.code
    · simp only [h0, h1, beq_self_eq_true, Bool.not_true, Bool.false_eq_true, if_false, true_and]
      by_cases h4 : f.data = g.data <;> simp [h4]
    · have h1' : (f.code == g.code) = false := by rw [beq_eq_false_iff_ne]; exact h1
      simp only [h0, h1, h1', beq_self_eq_true, Bool.not_true, Bool.false_eq_true, if_false, true_and, Bool.not_false, if_true, false_and, decide_false]
  · have h0' : (f.op == g.op) = false := by rw [beq_eq_false_iff_ne]; exact h0
    simp only [h0, h0', Bool.not_false, if_true, false_and, decide_false]
theorem eql_ev_all (f g : Ev) (b : Bool) (hb : f.same g = b) : ∀ W, (binOp .eql 57 (.agg #[.int .i64 f.op, .int .i64 f.code, .string f.data]) (.agg #[.int .i64 g.op, .int .i64 g.code, .string g.data])).run Try.prog W = .ok (.bool b) W := fun W => by
  have := run_eql_struct (P := Try.prog) W 57 #[.int .i64 f.op, .int .i64 f.code, .string f.data] #[.int .i64 g.op, .int .i64 g.code, .string g.data]
  have h := ev_equal W f g
  unfold Ev.val at h
  rw [h, hb] at this
  exact this
theorem neq_ev_all (f g : Ev) (b : Bool) (hb : f.same g = b) : ∀ W, (binOp .neq 57 (.agg #[.int .i64 f.op, .int .i64 f.code, .string f.data]) (.agg #[.int .i64 g.op, .int .i64 g.code, .string g.data])).run Try.prog W = .ok (.bool (!b)) W := fun W => by
  have := run_neq_struct (P := Try.prog) W 57 #[.int .i64 f.op, .int .i64 f.code, .string f.data] #[.int .i64 g.op, .int .i64 g.code, .string g.data]
  have h := ev_equal W f g
  unfold Ev.val at h
  rw [h, hb] at this
  exact this
theorem ev_cells {w : World} {A : Option Addr} {l : List Ev} (h : Rd w A (evCells l)) (k : Nat) (hk : k < l.length) : ∃ g off, A = some ⟨g, off, none⟩ ∧ g < w.heap.size ∧
    w.cell? ⟨g, off + k * 3, none⟩ = some (.int .i64 l[k].op) ∧ w.cell? ⟨g, off + k * 3 + 1, none⟩ = some (.int .i64 l[k].code) ∧ w.cell? ⟨g, off + k * 3 + 2, none⟩ = some (.string l[k].data) := by
  have hf := flat_at Ev.cs 3 (fun _ => rfl) l k hk
  obtain ⟨g, off, hA, hg, hc⟩ := h (by intro he; have := hf 0 (by omega); unfold evCells at he; rw [he] at this; simp [Ev.cs] at this)
  have hc' : ∀ j (hj : j < 3) u, (Ev.cs l[k])[j]? = some u → w.cell? ⟨g, off + k * 3 + j, none⟩ = some u := fun j hj u hu => by
    rw [Nat.add_assoc]; exact hc _ u ((hf j hj).trans hu)
  exact ⟨g, off, hA, hg, hc' 0 (by omega) _ rfl, hc' 1 (by omega) _ rfl, hc' 2 (by omega) _ rfl⟩
end Go.Proofs.Ytkhppojlabajaaa
