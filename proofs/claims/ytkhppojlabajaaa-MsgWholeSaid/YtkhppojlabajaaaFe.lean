/- Equality of keys and of frames. -/
import Derived.Test.YtkhppojlabajaaaMe
import Derived.Stop.BytesEq
namespace Go.Proofs.Ytkhppojlabajaaa
open Go.RowKit
set_option linter.unusedSimpArgs false
set_option linter.unusedVariables false

theorem all_range_int : ∀ (xs ys : List Int), xs.length = ys.length → ((List.range xs.length).all fun i => xs.getD i 0 == ys.getD i 0) = (xs == ys)
  | [], [], _ => rfl
  | x :: xs, y :: ys, h => by
    have ih := all_range_int xs ys (by simpa using h)
    rw [List.length_cons, List.range_succ_eq_map, List.all_cons, List.all_map]
    simp only [List.getD_cons_zero, Function.comp_def, List.getD_cons_succ, ih]
    simp [List.cons_beq_cons]
  | [], _ :: _, h => by simp at h
  | _ :: _, [], h => by simp at h
section
variable {P : Program} (w : World)
theorem run_equalIn_ints (d : Nat) (t e : TypeId) (n : Nat) (k : IntKind) (ht : P.underlying t = some (.array n e)) (he : P.underlying e = some (.int k)) (hsz : ∀ w, (sizeOf e).run P w = .ok 1 w)
    (xs ys : List Int) (hx : xs.length = n) (hy : ys.length = n) :
    (Op.equalIn (d + 2) t (.agg (xs.map (Value.int k)).toArray) (.agg (ys.map (Value.int k)).toArray)).run P w = .ok (xs == ys) w := by
  rw [← all_range_int xs ys (hx.trans hy.symm), hx, List.range_eq_range', Op.equalIn]
  simp only [Sem.run_bind, run_underlying ht, Result.andThen_ok, hsz, Std.Legacy.Range.forIn_eq_forIn_range', Std.Legacy.Range.size, Nat.sub_zero, Nat.add_sub_cancel, Nat.div_one]
  have hl : ∀ i ∈ List.range' 0 n 1, i < n := fun i hi => by simpa using (List.mem_range'_1.1 hi).2
  generalize List.range' 0 n 1 = l at hl ⊢
  induction l with
  | nil => simp
  | cons i l ih =>
    have hi : i < n := hl i (by simp)
    have px : (Go.part e (xs.map (Value.int k)).toArray (i * 1)).run P w = .ok (.int k (xs.getD i 0)) w := by
      simp [Go.part, isAgg, run_underlying he, List.getD, List.getElem?_eq_getElem (show i < xs.length by omega)]
    have py : (Go.part e (ys.map (Value.int k)).toArray (i * 1)).run P w = .ok (.int k (ys.getD i 0)) w := by
      simp [Go.part, isAgg, run_underlying he, List.getD, List.getElem?_eq_getElem (show i < ys.length by omega)]
    have pe := run_equalIn_int w d e k k (xs.getD i 0) (ys.getD i 0) he
    simp only [List.forIn_cons, Sem.run_bind, px, py, pe, Result.andThen_ok, List.all_cons]
    cases hb : (xs.getD i 0 == ys.getD i 0)
    · simp
    · simp only [Bool.not_true, Bool.false_eq_true, if_false, Sem.run_pure, Result.andThen_ok, Bool.true_and]
      exact ih fun j hj => hl j (by simp [hj])
end
theorem size_u8 (w : World) : (sizeOf 5).run Try.prog w = .ok 1 w := by kernel_rfl
theorem key_equalIn (w : World) (d : Nat) (a0 a1 a2 a3 b0 b1 b2 b3 : Int) :
    (Op.equalIn (d + 2) 42 (.agg #[.int .u8 a0, .int .u8 a1, .int .u8 a2, .int .u8 a3]) (.agg #[.int .u8 b0, .int .u8 b1, .int .u8 b2, .int .u8 b3])).run Try.prog w = .ok ([a0, a1, a2, a3] == [b0, b1, b2, b3]) w :=
  run_equalIn_ints w d 42 5 4 .u8 Try.underlying42 Try.underlying5 size_u8 [a0, a1, a2, a3] [b0, b1, b2, b3] rfl rfl
theorem neq_key (w : World) (a0 a1 a2 a3 b0 b1 b2 b3 : Int) :
    (binOp .neq 42 (.agg #[.int .u8 a0, .int .u8 a1, .int .u8 a2, .int .u8 a3]) (.agg #[.int .u8 b0, .int .u8 b1, .int .u8 b2, .int .u8 b3])).run Try.prog w = .ok (.bool (!([a0, a1, a2, a3] == [b0, b1, b2, b3]))) w := by
  have := run_neq_struct (P := Try.prog) w 42 #[.int .u8 a0, .int .u8 a1, .int .u8 a2, .int .u8 a3] #[.int .u8 b0, .int .u8 b1, .int .u8 b2, .int .u8 b3]
  rw [key_equalIn w 9998] at this
  exact this
theorem eql_key (w : World) (a0 a1 a2 a3 b0 b1 b2 b3 : Int) :
    (binOp .eql 42 (.agg #[.int .u8 a0, .int .u8 a1, .int .u8 a2, .int .u8 a3]) (.agg #[.int .u8 b0, .int .u8 b1, .int .u8 b2, .int .u8 b3])).run Try.prog w = .ok (.bool ([a0, a1, a2, a3] == [b0, b1, b2, b3])) w := by
  have := run_eql_struct (P := Try.prog) w 42 #[.int .u8 a0, .int .u8 a1, .int .u8 a2, .int .u8 a3] #[.int .u8 b0, .int .u8 b1, .int .u8 b2, .int .u8 b3]
  rw [key_equalIn w 9998] at this
  exact this

structure Fr where
  fin : Bool
  op : Int
  masked : Bool
  k0 : Int
  k1 : Int
  k2 : Int
  k3 : Int
  data : ByteArray
def Fr.zero : Fr := ⟨false, 0, false, 0, 0, 0, 0, ⟨#[]⟩⟩
def Fr.cs (f : Fr) : Array Value := #[.bool f.fin, .int .i64 f.op, .bool f.masked, .int .u8 f.k0, .int .u8 f.k1, .int .u8 f.k2, .int .u8 f.k3, .string f.data]
def Fr.key (f : Fr) : List Int := [f.k0, f.k1, f.k2, f.k3]
def Fr.good (f : Fr) : Prop := (Lit.int .i64 f.op).wf = true ∧ bytesIn f.key ∧ f.data.size ≤ maxLen
def Fr.same (f g : Fr) : Bool := decide (f.fin = g.fin ∧ f.op = g.op ∧ f.masked = g.masked ∧ f.key = g.key ∧ f.data = g.data)
theorem Fr.same_iff (f g : Fr) : f.same g = true ↔ f = g := by
  obtain ⟨a, b, c, d, e, h, i, j⟩ := f
  obtain ⟨a', b', c', d', e', h', i', j'⟩ := g
  simp [Fr.same, Fr.key]
  grind
theorem Fr.same_self (f : Fr) : f.same f = true := (Fr.same_iff f f).2 rfl

theorem fr_part0 (w : World) (f : Fr) : (Go.part 4 f.cs 0).run Try.prog w = .ok (.bool f.fin) w := by kernel_rfl
theorem fr_part1 (w : World) (f : Fr) : (Go.part 3 f.cs 1).run Try.prog w = .ok (.int .i64 f.op) w := by kernel_rfl
theorem fr_part2 (w : World) (f : Fr) : (Go.part 4 f.cs 2).run Try.prog w = .ok (.bool f.masked) w := by kernel_rfl
theorem fr_part3 (w : World) (f : Fr) : (Go.part 42 f.cs 3).run Try.prog w = .ok (.agg #[.int .u8 f.k0, .int .u8 f.k1, .int .u8 f.k2, .int .u8 f.k3]) w := by kernel_rfl
theorem fr_part4 (w : World) (f : Fr) : (Go.part 9 f.cs 7).run Try.prog w = .ok (.string f.data) w := by kernel_rfl
theorem fr_equal (w : World) (f g : Fr) : (Op.equalIn 10000 44 (.agg f.cs) (.agg g.cs)).run Try.prog w = .ok (f.same g) w := by
  rw [run_equalIn_struct w 9999 44 f.cs g.cs (by kernel_rfl) (by kernel_rfl)]
  simp only [Program.fieldsOf, Try.underlying44]
  have e3 := key_equalIn w 9997 f.k0 f.k1 f.k2 f.k3 g.k0 g.k1 g.k2 g.k3
  have n1 : ("Fin" ≠ "_") = True := by simp
  simp only [Op.eqFields, Sem.run_bind, Sem.run_ite, ne_eq, String.reduceEq, not_false_eq_true, if_true, fr_part0, fr_part1, fr_part2, fr_part3, fr_part4, Result.andThen_ok, Sem.run_pure, e3,
    run_equalIn_bool' w 9998 4 _ _ Try.underlying4, run_equalIn_int w 9998 3 .i64 .i64 _ _ Try.underlying3, run_equalIn_string w 9998 9 _ _ Try.underlying9, str_eq]
  unfold Fr.same Fr.key
  by_cases h0 : f.fin = g.fin
  · by_cases h1 : f.op = g.op
    · by_cases h2 : f.masked = g.masked
      · by_cases h3 : [f.k0, f.k1, f.k2, f.k3] = [g.k0, g.k1, g.k2, g.k3]
        · have h3' : ([f.k0, f.k1, f.k2, f.k3] == [g.k0, g.k1, g.k2, g.k3]) = true := by rw [beq_iff_eq]; exact h3
          simp only [h0, h1, h2, h3, h3', beq_self_eq_true, Bool.not_true, Bool.false_eq_true, if_false, true_and]
          by_cases h4 : f.data = g.data <;> simp [h4]
        · have h3' : ([f.k0, f.k1, f.k2, f.k3] == [g.k0, g.k1, g.k2, g.k3]) = false := by rw [beq_eq_false_iff_ne]; exact h3
          simp only [h0, h1, h2, h3, h3', beq_self_eq_true, Bool.not_true, Bool.false_eq_true, if_false, true_and, Bool.not_false, if_true, false_and, decide_false]
      · have h2' : (f.masked == g.masked) = false := by rw [beq_eq_false_iff_ne]; exact h2
        simp only [h0, h1, h2, h2', beq_self_eq_true, Bool.not_true, Bool.false_eq_true, if_false, true_and, Bool.not_false, if_true, false_and, decide_false]
    · have h1' : (f.op == g.op) = false := by rw [beq_eq_false_iff_ne]; exact h1
      simp only [h0, h1, h1', beq_self_eq_true, Bool.not_true, Bool.false_eq_true, if_false, true_and, Bool.not_false, if_true, false_and, decide_false]
  · have h0' : (f.fin == g.fin) = false := by rw [beq_eq_false_iff_ne]; exact h0
    simp only [h0, h0', Bool.not_false, if_true, false_and, decide_false]
theorem neq_fr (w : World) (f g : Fr) : (binOp .neq 44 (.agg f.cs) (.agg g.cs)).run Try.prog w = .ok (.bool (!f.same g)) w := by
  have := run_neq_struct (P := Try.prog) w 44 f.cs g.cs
  rw [fr_equal w f g] at this
  exact this
theorem eql_fr (w : World) (f g : Fr) : (binOp .eql 44 (.agg f.cs) (.agg g.cs)).run Try.prog w = .ok (.bool (f.same g)) w := by
  have := run_eql_struct (P := Try.prog) w 44 f.cs g.cs
  rw [fr_equal w f g] at this
  exact this
theorem eql_fr_all (f g : Fr) (b : Bool) (hb : f.same g = b) : ∀ W, (binOp .eql 44 (.agg #[.bool f.fin, .int .i64 f.op, .bool f.masked, .int .u8 f.k0, .int .u8 f.k1, .int .u8 f.k2, .int .u8 f.k3, .string f.data]) (.agg #[.bool g.fin, .int .i64 g.op, .bool g.masked, .int .u8 g.k0, .int .u8 g.k1, .int .u8 g.k2, .int .u8 g.k3, .string g.data])).run Try.prog W = .ok (.bool b) W :=
  fun W => by have := eql_fr W f g; rw [hb] at this; exact this
theorem neq_fr_all (f g : Fr) (b : Bool) (hb : f.same g = b) : ∀ W, (binOp .neq 44 (.agg #[.bool f.fin, .int .i64 f.op, .bool f.masked, .int .u8 f.k0, .int .u8 f.k1, .int .u8 f.k2, .int .u8 f.k3, .string f.data]) (.agg #[.bool g.fin, .int .i64 g.op, .bool g.masked, .int .u8 g.k0, .int .u8 g.k1, .int .u8 g.k2, .int .u8 g.k3, .string g.data])).run Try.prog W = .ok (.bool (!b)) W :=
  fun W => by have := neq_fr W f g; rw [hb] at this; exact this

end Go.Proofs.Ytkhppojlabajaaa
