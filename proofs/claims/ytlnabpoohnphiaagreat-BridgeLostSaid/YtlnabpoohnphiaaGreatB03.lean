/- mask: Get. | Equality of keys and of frames. | Frames and keys as arguments. | law17: acts and sizes as arguments. | ring: what its bytes are, in plain Lean. -/
import Derived.Test.YtlnabpoohnphiaaGreatB02
import Derived.Test.YtlnabpoohnphiaaGreatB01
import Derived.Stop.BytesEq
import Derived.Laws.CopyOwn
/- mask: Get. -/
namespace Go.Proofs.YtlnabpoohnphiaaGreat
open Go.RowKit
set_option linter.unusedSimpArgs false
set_option linter.unusedVariables false

/-- The length that bytes begin with: the number, how many bytes it has, what is wrong. -/
def getSize (b : List Int) (size : Nat) (lo hi : Int) : Int × Nat × Int :=
  if numB 255 ((b.take (1 + size)).drop 1) size < lo ∨ hi < numB 0 ((b.take (1 + size)).drop 1) size then (0, 0, 81)
  else if b.length < 1 + size then (0, 0, 80)
  else (numB 0 ((b.take (1 + size)).drop 1) size, 1 + size, 0)
def getLen (b : List Int) : Int × Nat × Int :=
  if b = [] then (0, 0, 80)
  else if b.getD 0 0 % 128 = 126 then getSize b 2 126 65535
  else if b.getD 0 0 % 128 = 127 then getSize b 8 65536 9223372036854775807
  else (b.getD 0 0 % 128, 1, 0)

theorem rd_window {w : World} {g off : Nat} {l : List Int} (h : Rd w (some ⟨g, off, none⟩) (u8s l)) (i j : Nat) : Rd w (some ⟨g, off + i, none⟩) (u8s ((l.take j).drop i)) := fun hx => by
  have hne : u8s l ≠ [] := by
    intro h0
    apply hx
    have : l = [] := by simpa [u8s] using h0
    subst this
    simp [u8s]
  obtain ⟨g', off', he, hg, hc⟩ := h hne
  injection he with he
  injection he with h1 h2
  subst h1
  subst h2
  refine ⟨g, off + i, rfl, hg, fun k u hu => ?_⟩
  rw [Nat.add_assoc]
  apply hc
  simp only [u8s, List.getElem?_map, List.getElem?_drop, List.getElem?_take] at hu ⊢
  split at hu
  · exact hu
  · simp at hu
set_option maxHeartbeats 1600000 in
set_option maxRecDepth 100000 in
theorem m_get (A : Option Addr) (l : List Int) (cap : Nat) (w : World) (hr : Rd w A (u8s l)) (hb : bytesIn l) (hl : l.length ≤ cap) (hc : cap ≤ maxLen) (hl2 : l.length ≤ 4611686018427387904) :
    Calls Tryz.prog 138 #[.slice A l.length cap] w fun e w' =>
      e = .returned (.tuple #[.int .u64 (getLen l).1, .int .i64 (getLen l).2.1, .int .i64 (getLen l).2.2]) ∧ Touch NoS w w' := by
  have HR := Lib.hid hr
  have HB := Lib.hid hb
  unfold maxLen at hc
  clear hr hb
  by_cases h0 : l = []
  · subst h0
    have hg : getLen [] = (0, 0, 80) := rfl
    rw [hg]
    clear hg
    go_enter Tryz.func138, Tryz.ntmps138
    go_wp2
    go_ret3
    exact ⟨rfl, Touch.refl _ _⟩
  have hpos : 0 < l.length := by cases l with | nil => exact absurd rfl h0 | cons x t => simp
  obtain ⟨gA, off, rfl, hgA, ca⟩ := u8s_at HR.out 0 hpos
  obtain ⟨x, hx⟩ : ∃ x, x = l[0] := ⟨_, rfl⟩
  have hx8 : 0 ≤ x ∧ x ≤ 255 := by rw [hx]; exact HB.out _ (List.getElem_mem hpos)
  have hxd : l.getD 0 0 = x := by rw [hx, List.getD_eq_getElem?_getD, List.getElem?_eq_getElem hpos]; rfl
  rw [← hx, Nat.add_zero] at ca
  have hand : bits .and .u8 x 127 = x % 128 := by
    have := bits_mask .u8 8 (by decide) (fun n h0 h1 => IntWalk.u8_in n (by omega)) 7 (by omega) x (by omega) (by omega)
    simpa using this
  obtain ⟨y, hy⟩ : ∃ y, y = x % 128 := ⟨_, rfl⟩
  rw [← hy] at hand
  have y0 : 0 ≤ y := by omega
  have y1 : y ≤ 127 := by omega
  have hpos' : (0 : Int) < l.length := by omega
  have hne : ((l.length : Int) == 0) = false := by rw [beq_eq_false_iff_ne]; omega
  by_cases h126 : y = 126
  · have hg : getLen l = getSize l 2 126 65535 := by unfold getLen; rw [if_neg h0, hxd, ← hy, if_pos h126]
    obtain ⟨R, hR⟩ : ∃ R, R = getLen l := ⟨_, rfl⟩
    rw [← hR]
    rw [hg] at hR
    subst h126
    obtain ⟨r, hrr⟩ : ∃ r, r = (l.take (1 + 2)).drop 1 := ⟨_, rfl⟩
    have hrl : r.length = min l.length (1 + 2) - 1 := by rw [hrr]; simp; omega
    have hrb : bytesIn r := by rw [hrr]; exact (HB.out.take _).drop _
    have hrd : l.length ≠ 1 → Rd w (some ⟨gA, off + 1, none⟩) (u8s r) := fun _ => by
      rw [hrr]
      exact rd_window HR.out 1 (1 + 2)
    unfold getSize at hR
    rw [← hrr] at hR
    have HRD := Lib.hid hrd
    have HRB := Lib.hid hrb
    have HRL := Lib.hid hrl
    obtain ⟨a, ha⟩ : ∃ a, a = numB 0 r 2 := ⟨_, rfl⟩
    obtain ⟨b, hb⟩ : ∃ b, b = numB 255 r 2 := ⟨_, rfl⟩
    have hab := numB_bound HRB.out 0 (by omega) 2
    have hbb := numB_bound HRB.out 255 (by omega) 2
    rw [← ha] at hab hR
    rw [← hb] at hbb hR
    have HRR := Lib.hid hR
    clear hR
    obtain ⟨a0, a1⟩ := hab
    obtain ⟨b0, b1⟩ := hbb
    have HA := Lib.hid ha
    have HBB := Lib.hid hb
    clear hg hy hx hxd hx8 h0 hrr hrd hrb hrl ha hb
    by_cases hl1 : l.length = 1
    · go_enter Tryz.func138, Tryz.ntmps138
      go_wp2_with fail
      refine (m_least_ _ r _ _ (by rw [HRL.out, hl1]; rfl) 2 2 (by decide) (by omega) _ (fun hx => absurd (by have := HRL.out; rw [hl1] at this; have h0 := List.eq_nil_of_length_eq_zero (l := r) (by omega); rw [h0]; rfl) hx) HRB.out (by have := HRL.out; omega)).mono ?_
      rintro e w1 ⟨rfl, ht⟩
      have HT := Lib.hid ht
      clear ht
      rw [← HA.out, ← HBB.out]
      by_cases c1 : b < 126
      · rw [if_pos (.inl c1)] at HRR
        go_wp2
        go_ret3
        exact ⟨by rw [HRR.out]; rfl, HT.out⟩
      by_cases c2 : 65535 < a
      · rw [if_pos (.inr c2)] at HRR
        go_wp2
        go_ret3
        exact ⟨by rw [HRR.out]; rfl, HT.out⟩
      rw [if_neg (by omega)] at HRR
      by_cases c3 : l.length < 1 + 2
      · rw [if_pos c3] at HRR
        go_wp2
        go_ret3
        exact ⟨by rw [HRR.out]; rfl, HT.out⟩
      · omega
    · go_enter Tryz.func138, Tryz.ntmps138
      go_wp2_with fail
      refine (m_least_ _ r _ _ (by have := HRL.out; omega) 2 2 (by decide) (by omega) _ (HRD.out hl1) HRB.out (by have := HRL.out; omega)).mono ?_
      rintro e w1 ⟨rfl, ht⟩
      have HT := Lib.hid ht
      clear ht
      rw [← HA.out, ← HBB.out]
      by_cases c1 : b < 126
      · rw [if_pos (.inl c1)] at HRR
        go_wp2
        go_ret3
        exact ⟨by rw [HRR.out]; rfl, HT.out⟩
      by_cases c2 : 65535 < a
      · rw [if_pos (.inr c2)] at HRR
        go_wp2
        go_ret3
        exact ⟨by rw [HRR.out]; rfl, HT.out⟩
      rw [if_neg (by omega)] at HRR
      by_cases c3 : l.length < 1 + 2
      · rw [if_pos c3] at HRR
        go_wp2
        go_ret3
        exact ⟨by rw [HRR.out]; rfl, HT.out⟩
      · rw [if_neg c3] at HRR
        go_wp2
        go_ret3
        exact ⟨by rw [HRR.out]; rfl, HT.out⟩
  by_cases h127 : y = 127
  · have hg : getLen l = getSize l 8 65536 9223372036854775807 := by unfold getLen; rw [if_neg h0, hxd, ← hy, if_neg (by omega), if_pos h127]
    obtain ⟨R, hR⟩ : ∃ R, R = getLen l := ⟨_, rfl⟩
    rw [← hR]
    rw [hg] at hR
    subst h127
    obtain ⟨r, hrr⟩ : ∃ r, r = (l.take (1 + 8)).drop 1 := ⟨_, rfl⟩
    have hrl : r.length = min l.length (1 + 8) - 1 := by rw [hrr]; simp; omega
    have hrb : bytesIn r := by rw [hrr]; exact (HB.out.take _).drop _
    have hrd : l.length ≠ 1 → Rd w (some ⟨gA, off + 1, none⟩) (u8s r) := fun _ => by
      rw [hrr]
      exact rd_window HR.out 1 (1 + 8)
    unfold getSize at hR
    rw [← hrr] at hR
    have HRD := Lib.hid hrd
    have HRB := Lib.hid hrb
    have HRL := Lib.hid hrl
    obtain ⟨a, ha⟩ : ∃ a, a = numB 0 r 8 := ⟨_, rfl⟩
    obtain ⟨b, hb⟩ : ∃ b, b = numB 255 r 8 := ⟨_, rfl⟩
    have hab := numB_bound HRB.out 0 (by omega) 8
    have hbb := numB_bound HRB.out 255 (by omega) 8
    rw [← ha] at hab hR
    rw [← hb] at hbb hR
    have HRR := Lib.hid hR
    clear hR
    obtain ⟨a0, a1⟩ := hab
    obtain ⟨b0, b1⟩ := hbb
    have HA := Lib.hid ha
    have HBB := Lib.hid hb
    clear hg hy hx hxd hx8 h0 hrr hrd hrb hrl ha hb
    by_cases hl1 : l.length = 1
    · go_enter Tryz.func138, Tryz.ntmps138
      go_wp2_with fail
      refine (m_least_ _ r _ _ (by rw [HRL.out, hl1]; rfl) 8 8 (by decide) (by omega) _ (fun hx => absurd (by have := HRL.out; rw [hl1] at this; have h0 := List.eq_nil_of_length_eq_zero (l := r) (by omega); rw [h0]; rfl) hx) HRB.out (by have := HRL.out; omega)).mono ?_
      rintro e w1 ⟨rfl, ht⟩
      have HT := Lib.hid ht
      clear ht
      rw [← HA.out, ← HBB.out]
      by_cases c1 : b < 65536
      · rw [if_pos (.inl c1)] at HRR
        go_wp2
        go_ret3
        exact ⟨by rw [HRR.out]; rfl, HT.out⟩
      by_cases c2 : 9223372036854775807 < a
      · rw [if_pos (.inr c2)] at HRR
        go_wp2
        go_ret3
        exact ⟨by rw [HRR.out]; rfl, HT.out⟩
      rw [if_neg (by omega)] at HRR
      by_cases c3 : l.length < 1 + 8
      · rw [if_pos c3] at HRR
        go_wp2
        go_ret3
        exact ⟨by rw [HRR.out]; rfl, HT.out⟩
      · omega
    · go_enter Tryz.func138, Tryz.ntmps138
      go_wp2_with fail
      refine (m_least_ _ r _ _ (by have := HRL.out; omega) 8 8 (by decide) (by omega) _ (HRD.out hl1) HRB.out (by have := HRL.out; omega)).mono ?_
      rintro e w1 ⟨rfl, ht⟩
      have HT := Lib.hid ht
      clear ht
      rw [← HA.out, ← HBB.out]
      by_cases c1 : b < 65536
      · rw [if_pos (.inl c1)] at HRR
        go_wp2
        go_ret3
        exact ⟨by rw [HRR.out]; rfl, HT.out⟩
      by_cases c2 : 9223372036854775807 < a
      · rw [if_pos (.inr c2)] at HRR
        go_wp2
        go_ret3
        exact ⟨by rw [HRR.out]; rfl, HT.out⟩
      rw [if_neg (by omega)] at HRR
      by_cases c3 : l.length < 1 + 8
      · rw [if_pos c3] at HRR
        go_wp2
        go_ret3
        exact ⟨by rw [HRR.out]; rfl, HT.out⟩
      · rw [if_neg c3] at HRR
        go_wp2
        go_ret3
        exact ⟨by rw [HRR.out]; rfl, HT.out⟩
  · have hg : getLen l = (y, 1, 0) := by unfold getLen; rw [if_neg h0, hxd, ← hy, if_neg h126, if_neg h127]
    rw [hg]
    have n6 : (y == 126) = false := by rw [beq_eq_false_iff_ne]; exact h126
    have n7 : (y == 127) = false := by rw [beq_eq_false_iff_ne]; exact h127
    clear hg hy hx hxd hx8 h0
    go_enter Tryz.func138, Tryz.ntmps138
    go_wp2
    go_ret3
    exact ⟨rfl, Touch.refl _ _⟩
end Go.Proofs.YtlnabpoohnphiaaGreat
/- Equality of keys and of frames. -/
namespace Go.Proofs.YtlnabpoohnphiaaGreat
open Go.RowKit
set_option linter.unusedSimpArgs false
set_option linter.unusedVariables false

theorem all_range_int : ∀ (xs ys : List Int), xs.length = ys.length → ((List.range xs.length).all fun i => xs.getD i 0 == ys.getD i 0) = (xs == ys)
  | [], [], _ => rfl
  | x :: xs, y :: ys, h => by
    have ih := all_range_int xs ys (by simpa using h)
    rw [List.length_cons, List.range_succ_eq_map, List.all_cons, List.all_map]
    simp only [List.getD_cons_zero, Function.comp_def, List.getD_cons_succ, ih]
    simp [List.cons_beq_cons]
  | [], _ :: _, h => by simp at h
  | _ :: _, [], h => by simp at h
section
variable {P : Program} (w : World)
theorem run_equalIn_ints (d : Nat) (t e : TypeId) (n : Nat) (k : IntKind) (ht : P.underlying t = some (.array n e)) (he : P.underlying e = some (.int k)) (hsz : ∀ w, (sizeOf e).run P w = .ok 1 w)
    (xs ys : List Int) (hx : xs.length = n) (hy : ys.length = n) :
    (Op.equalIn (d + 2) t (.agg (xs.map (Value.int k)).toArray) (.agg (ys.map (Value.int k)).toArray)).run P w = .ok (xs == ys) w := by
  rw [← all_range_int xs ys (hx.trans hy.symm), hx, List.range_eq_range', Op.equalIn]
  simp only [Sem.run_bind, run_underlying ht, Result.andThen_ok, hsz, Std.Legacy.Range.forIn_eq_forIn_range', Std.Legacy.Range.size, Nat.sub_zero, Nat.add_sub_cancel, Nat.div_one]
  have hl : ∀ i ∈ List.range' 0 n 1, i < n := fun i hi => by simpa using (List.mem_range'_1.1 hi).2
  generalize List.range' 0 n 1 = l at hl ⊢
  induction l with
  | nil => simp
  | cons i l ih =>
    have hi : i < n := hl i (by simp)
    have px : (Go.part e (xs.map (Value.int k)).toArray (i * 1)).run P w = .ok (.int k (xs.getD i 0)) w := by
      simp [Go.part, isAgg, run_underlying he, List.getD, List.getElem?_eq_getElem (show i < xs.length by omega)]
    have py : (Go.part e (ys.map (Value.int k)).toArray (i * 1)).run P w = .ok (.int k (ys.getD i 0)) w := by
      simp [Go.part, isAgg, run_underlying he, List.getD, List.getElem?_eq_getElem (show i < ys.length by omega)]
    have pe := run_equalIn_int w d e k k (xs.getD i 0) (ys.getD i 0) he
    simp only [List.forIn_cons, Sem.run_bind, px, py, pe, Result.andThen_ok, List.all_cons]
    cases hb : (xs.getD i 0 == ys.getD i 0)
    · simp
    · simp only [Bool.not_true, Bool.false_eq_true, if_false, Sem.run_pure, Result.andThen_ok, Bool.true_and]
      exact ih fun j hj => hl j (by simp [hj])
end
theorem size_u8 (w : World) : (sizeOf 5).run Tryz.prog w = .ok 1 w := by kernel_rfl
theorem key_equalIn (w : World) (d : Nat) (a0 a1 a2 a3 b0 b1 b2 b3 : Int) :
    (Op.equalIn (d + 2) 40 (.agg #[.int .u8 a0, .int .u8 a1, .int .u8 a2, .int .u8 a3]) (.agg #[.int .u8 b0, .int .u8 b1, .int .u8 b2, .int .u8 b3])).run Tryz.prog w = .ok ([a0, a1, a2, a3] == [b0, b1, b2, b3]) w :=
  run_equalIn_ints w d 40 5 4 .u8 Tryz.underlying40 Tryz.underlying5 size_u8 [a0, a1, a2, a3] [b0, b1, b2, b3] rfl rfl
theorem neq_key (w : World) (a0 a1 a2 a3 b0 b1 b2 b3 : Int) :
    (binOp .neq 40 (.agg #[.int .u8 a0, .int .u8 a1, .int .u8 a2, .int .u8 a3]) (.agg #[.int .u8 b0, .int .u8 b1, .int .u8 b2, .int .u8 b3])).run Tryz.prog w = .ok (.bool (!([a0, a1, a2, a3] == [b0, b1, b2, b3]))) w := by
  have := run_neq_struct (P := Tryz.prog) w 40 #[.int .u8 a0, .int .u8 a1, .int .u8 a2, .int .u8 a3] #[.int .u8 b0, .int .u8 b1, .int .u8 b2, .int .u8 b3]
  rw [key_equalIn w 9998] at this
  exact this
theorem eql_key (w : World) (a0 a1 a2 a3 b0 b1 b2 b3 : Int) :
    (binOp .eql 40 (.agg #[.int .u8 a0, .int .u8 a1, .int .u8 a2, .int .u8 a3]) (.agg #[.int .u8 b0, .int .u8 b1, .int .u8 b2, .int .u8 b3])).run Tryz.prog w = .ok (.bool ([a0, a1, a2, a3] == [b0, b1, b2, b3])) w := by
  have := run_eql_struct (P := Tryz.prog) w 40 #[.int .u8 a0, .int .u8 a1, .int .u8 a2, .int .u8 a3] #[.int .u8 b0, .int .u8 b1, .int .u8 b2, .int .u8 b3]
  rw [key_equalIn w 9998] at this
  exact this

structure Fr where
  fin : Bool
  op : Int
  masked : Bool
  k0 : Int
  k1 : Int
  k2 : Int
  k3 : Int
  data : ByteArray
def Fr.zero : Fr := ⟨false, 0, false, 0, 0, 0, 0, ⟨#[]⟩⟩
def Fr.cs (f : Fr) : Array Value := #[.bool f.fin, .int .i64 f.op, .bool f.masked, .int .u8 f.k0, .int .u8 f.k1, .int .u8 f.k2, .int .u8 f.k3, .string f.data]
def Fr.key (f : Fr) : List Int := [f.k0, f.k1, f.k2, f.k3]
def Fr.good (f : Fr) : Prop := (Lit.int .i64 f.op).wf = true ∧ bytesIn f.key ∧ f.data.size ≤ maxLen
def Fr.same (f g : Fr) : Bool := decide (f.fin = g.fin ∧ f.op = g.op ∧ f.masked = g.masked ∧ f.key = g.key ∧ f.data = g.data)
theorem Fr.same_iff (f g : Fr) : f.same g = true ↔ f = g := by
  obtain ⟨a, b, c, d, e, h, i, j⟩ := f
  obtain ⟨a', b', c', d', e', h', i', j'⟩ := g
  simp [Fr.same, Fr.key]
  grind
theorem Fr.same_self (f : Fr) : f.same f = true := (Fr.same_iff f f).2 rfl

theorem fr_part0 (w : World) (f : Fr) : (Go.part 4 f.cs 0).run Tryz.prog w = .ok (.bool f.fin) w := by kernel_rfl
theorem fr_part1 (w : World) (f : Fr) : (Go.part 3 f.cs 1).run Tryz.prog w = .ok (.int .i64 f.op) w := by kernel_rfl
theorem fr_part2 (w : World) (f : Fr) : (Go.part 4 f.cs 2).run Tryz.prog w = .ok (.bool f.masked) w := by kernel_rfl
theorem fr_part3 (w : World) (f : Fr) : (Go.part 40 f.cs 3).run Tryz.prog w = .ok (.agg #[.int .u8 f.k0, .int .u8 f.k1, .int .u8 f.k2, .int .u8 f.k3]) w := by kernel_rfl
theorem fr_part4 (w : World) (f : Fr) : (Go.part 9 f.cs 7).run Tryz.prog w = .ok (.string f.data) w := by kernel_rfl
theorem fr_equal (w : World) (f g : Fr) : (Op.equalIn 10000 42 (.agg f.cs) (.agg g.cs)).run Tryz.prog w = .ok (f.same g) w := by
  rw [run_equalIn_struct w 9999 42 f.cs g.cs (by kernel_rfl) (by kernel_rfl)]
  simp only [Program.fieldsOf, Tryz.underlying42]
  have e3 := key_equalIn w 9997 f.k0 f.k1 f.k2 f.k3 g.k0 g.k1 g.k2 g.k3
  have n1 : ("Fin" ≠ "_") = True := by simp
  simp only [Op.eqFields, Sem.run_bind, Sem.run_ite, ne_eq, String.reduceEq, not_false_eq_true, if_true, fr_part0, fr_part1, fr_part2, fr_part3, fr_part4, Result.andThen_ok, Sem.run_pure, e3,
    run_equalIn_bool' w 9998 4 _ _ Tryz.underlying4, run_equalIn_int w 9998 3 .i64 .i64 _ _ Tryz.underlying3, run_equalIn_string w 9998 9 _ _ Tryz.underlying9, str_eq]
  unfold Fr.same Fr.key
  by_cases h0 : f.fin = g.fin
  · by_cases h1 : f.op = g.op
    · by_cases h2 : f.masked = g.masked
      · by_cases h3 : [f.k0, f.k1, f.k2, f.k3] = [g.k0, g.k1, g.k2, g.k3]
        · have h3' : ([f.k0, f.k1, f.k2, f.k3] == [g.k0, g.k1, g.k2, g.k3]) = true := by rw [beq_iff_eq]; exact h3
          simp only [h0, h1, h2, h3, h3', beq_self_eq_true, Bool.not_true, Bool.false_eq_true, if_false, true_and]
          by_cases h4 : f.data = g.data <;> simp [h4]
        · have h3' : ([f.k0, f.k1, f.k2, f.k3] == [g.k0, g.k1, g.k2, g.k3]) = false := by rw [beq_eq_false_iff_ne]; exact h3
          simp only [h0, h1, h2, h3, h3', beq_self_eq_true, Bool.not_true, Bool.false_eq_true, if_false, true_and, Bool.not_false, if_true, false_and, decide_false]
      · have h2' : (f.masked == g.masked) = false := by rw [beq_eq_false_iff_ne]; exact h2
        simp only [h0, h1, h2, h2', beq_self_eq_true, Bool.not_true, Bool.false_eq_true, if_false, true_and, Bool.not_false, if_true, false_and, decide_false]
    · have h1' : (f.op == g.op) = false := by rw [beq_eq_false_iff_ne]; exact h1
      simp only [h0, h1, h1', beq_self_eq_true, Bool.not_true, Bool.false_eq_true, if_false, true_and, Bool.not_false, if_true, false_and, decide_false]
  · have h0' : (f.fin == g.fin) = false := by rw [beq_eq_false_iff_ne]; exact h0
    simp only [h0, h0', Bool.not_false, if_true, false_and, decide_false]
theorem neq_fr (w : World) (f g : Fr) : (binOp .neq 42 (.agg f.cs) (.agg g.cs)).run Tryz.prog w = .ok (.bool (!f.same g)) w := by
  have := run_neq_struct (P := Tryz.prog) w 42 f.cs g.cs
  rw [fr_equal w f g] at this
  exact this
theorem eql_fr (w : World) (f g : Fr) : (binOp .eql 42 (.agg f.cs) (.agg g.cs)).run Tryz.prog w = .ok (.bool (f.same g)) w := by
  have := run_eql_struct (P := Tryz.prog) w 42 f.cs g.cs
  rw [fr_equal w f g] at this
  exact this
theorem eql_fr_all (f g : Fr) (b : Bool) (hb : f.same g = b) : ∀ W, (binOp .eql 42 (.agg #[.bool f.fin, .int .i64 f.op, .bool f.masked, .int .u8 f.k0, .int .u8 f.k1, .int .u8 f.k2, .int .u8 f.k3, .string f.data]) (.agg #[.bool g.fin, .int .i64 g.op, .bool g.masked, .int .u8 g.k0, .int .u8 g.k1, .int .u8 g.k2, .int .u8 g.k3, .string g.data])).run Tryz.prog W = .ok (.bool b) W :=
  fun W => by have := eql_fr W f g; rw [hb] at this; exact this
theorem neq_fr_all (f g : Fr) (b : Bool) (hb : f.same g = b) : ∀ W, (binOp .neq 42 (.agg #[.bool f.fin, .int .i64 f.op, .bool f.masked, .int .u8 f.k0, .int .u8 f.k1, .int .u8 f.k2, .int .u8 f.k3, .string f.data]) (.agg #[.bool g.fin, .int .i64 g.op, .bool g.masked, .int .u8 g.k0, .int .u8 g.k1, .int .u8 g.k2, .int .u8 g.k3, .string g.data])).run Tryz.prog W = .ok (.bool (!b)) W :=
  fun W => by have := neq_fr W f g; rw [hb] at this; exact this

end Go.Proofs.YtlnabpoohnphiaaGreat
/- Frames and keys as arguments. -/
namespace Go.Proofs.YtlnabpoohnphiaaGreat
open Go.RowKit
set_option linter.unusedSimpArgs false
set_option linter.unusedVariables false

theorem okWide_array {P : Program} {w : World} {r : Reach} {base : Nat} {t e : TypeId} {v : Value} {n : Nat} (ht : P.underlying t = some (.array n e)) (h : Value.okWide P w r base t v) : ∃ cs, v = .agg cs ∧ cs.size = P.cellsOf t := by
  simp only [Value.okWide, ht] at h
  obtain ⟨cs, h1, h2, _⟩ := h
  exact ⟨cs, h1, h2⟩
theorem dec_key : Dec 40 (fun x : Int × Int × Int × Int => [.int .u8 x.1, .int .u8 x.2.1, .int .u8 x.2.2.1, .int .u8 x.2.2.2]) (fun x => bytesIn [x.1, x.2.1, x.2.2.1, x.2.2.2]) := by
  intro H enc w base spare held fuel cs y h
  obtain ⟨xs, m, _, _, hlen, hx, hf⟩ := DataW.trod_array Tryz.underlying40 h
  have hc1 : Tryz.prog.cellsOf 5 = 1 := by kernel_rfl
  have hc4 : Tryz.prog.cellsOf 40 = 4 := by kernel_rfl
  rw [hc4] at hlen
  obtain ⟨c0, c1, c2, c3, rfl⟩ : ∃ c0 c1 c2 c3, cs = [c0, c1, c2, c3] := by
    rcases cs with _ | ⟨a0, _ | ⟨a1, _ | ⟨a2, _ | ⟨a3, _ | ⟨a4, K⟩⟩⟩⟩⟩ <;> simp at hlen
    exact ⟨_, _, _, _, rfl⟩
  have hg : ∀ (i : Nat) (c : Value), ([c0, c1, c2, c3].drop (i * 1)).take 1 = [c] → i < 4 → ∃ n, c = .int .u8 n ∧ 0 ≤ n ∧ n ≤ 255 := by
    intro i c hc hi
    have e := hf i hi
    rw [hc1, hc] at e
    obtain ⟨yi, hyi⟩ : ∃ yi, xs[i]? = some yi := ⟨_, List.getElem?_eq_getElem (by rw [hx]; exact hi)⟩
    rw [hyi] at e
    obtain ⟨n, hn, _, hw⟩ := DataW.trod_int Tryz.underlying5 e
    injection hn with hn
    exact ⟨n, hn, u8_bounds hw⟩
  obtain ⟨n0, rfl, a0, b0⟩ := hg 0 c0 rfl (by omega)
  obtain ⟨n1, rfl, a1, b1⟩ := hg 1 c1 rfl (by omega)
  obtain ⟨n2, rfl, a2, b2⟩ := hg 2 c2 rfl (by omega)
  obtain ⟨n3, rfl, a3, b3⟩ := hg 3 c3 rfl (by omega)
  refine ⟨(n0, n1, n2, n3), rfl, ?_⟩
  intro x hx'
  simp at hx'
  omega
theorem dec_five {α β γ δ ε : Type} {t : TypeId} {f0 f1 f2 f3 f4 : Field} {c0 : α → List Value} {c1 : β → List Value} {c2 : γ → List Value} {c3 : δ → List Value} {c4 : ε → List Value} {g0 : α → Prop} {g1 : β → Prop} {g2 : γ → Prop} {g3 : δ → Prop} {g4 : ε → Prop} (s0 s1 s2 s3 s4 : Nat)
    (ht : Tryz.prog.underlying t = some (.struct #[f0, f1, f2, f3, f4])) (o0 : f0.offset = 0) (o1 : f1.offset = s0) (o2 : f2.offset = s0 + s1) (o3 : f3.offset = s0 + s1 + s2) (o4 : f4.offset = s0 + s1 + s2 + s3)
    (k0 : Tryz.prog.cellsOf f0.type = s0) (k1 : Tryz.prog.cellsOf f1.type = s1) (k2 : Tryz.prog.cellsOf f2.type = s2) (k3 : Tryz.prog.cellsOf f3.type = s3) (k4 : Tryz.prog.cellsOf f4.type = s4)
    (hC : Tryz.prog.cellsOf t = s0 + s1 + s2 + s3 + s4) (h0 : Dec f0.type c0 g0) (h1 : Dec f1.type c1 g1) (h2 : Dec f2.type c2 g2) (h3 : Dec f3.type c3 g3) (h4 : Dec f4.type c4 g4) :
    Dec t (fun x : α × β × γ × δ × ε => c0 x.1 ++ (c1 x.2.1 ++ (c2 x.2.2.1 ++ (c3 x.2.2.2.1 ++ c4 x.2.2.2.2)))) (fun x => g0 x.1 ∧ g1 x.2.1 ∧ g2 x.2.2.1 ∧ g3 x.2.2.2.1 ∧ g4 x.2.2.2.2) := by
  intro H enc w base spare held fuel cs y h
  obtain ⟨xs, n, _, _, hlen, hx, hf⟩ := DataW.trod_struct ht h
  have e0 := hf 0 f0 rfl
  have e1 := hf 1 f1 rfl
  have e2 := hf 2 f2 rfl
  have e3 := hf 3 f3 rfl
  have e4 := hf 4 f4 rfl
  obtain ⟨y0, q0⟩ : ∃ y0, xs[0]? = some y0 := ⟨_, List.getElem?_eq_getElem (by rw [hx]; simp)⟩
  obtain ⟨y1, q1⟩ : ∃ y1, xs[1]? = some y1 := ⟨_, List.getElem?_eq_getElem (by rw [hx]; simp)⟩
  obtain ⟨y2, q2⟩ : ∃ y2, xs[2]? = some y2 := ⟨_, List.getElem?_eq_getElem (by rw [hx]; simp)⟩
  obtain ⟨y3, q3⟩ : ∃ y3, xs[3]? = some y3 := ⟨_, List.getElem?_eq_getElem (by rw [hx]; simp)⟩
  obtain ⟨y4, q4⟩ : ∃ y4, xs[4]? = some y4 := ⟨_, List.getElem?_eq_getElem (by rw [hx]; simp)⟩
  rw [q0] at e0
  rw [q1] at e1
  rw [q2] at e2
  rw [q3] at e3
  rw [q4] at e4
  obtain ⟨x0, a0, b0⟩ := h0 _ _ _ _ _ _ _ _ _ e0
  obtain ⟨x1, a1, b1⟩ := h1 _ _ _ _ _ _ _ _ _ e1
  obtain ⟨x2, a2, b2⟩ := h2 _ _ _ _ _ _ _ _ _ e2
  obtain ⟨x3, a3, b3⟩ := h3 _ _ _ _ _ _ _ _ _ e3
  obtain ⟨x4, a4, b4⟩ := h4 _ _ _ _ _ _ _ _ _ e4
  rw [o0, k0, List.drop_zero] at a0
  rw [o1, k1] at a1
  rw [o2, k2, ← List.drop_drop] at a2
  rw [o3, k3, ← List.drop_drop, ← List.drop_drop] at a3
  rw [o4, k4, List.take_of_length_le (by rw [List.length_drop]; omega), ← List.drop_drop, ← List.drop_drop, ← List.drop_drop] at a4
  refine ⟨(x0, x1, x2, x3, x4), ?_, b0, b1, b2, b3, b4⟩
  show cs = c0 x0 ++ (c1 x1 ++ (c2 x2 ++ (c3 x3 ++ c4 x4)))
  rw [← a0, ← a1, ← a2, ← a3, ← a4, List.take_append_drop, List.take_append_drop, List.take_append_drop, List.take_append_drop]
def Fr.cl (f : Fr) : List Value := [.bool f.fin, .int .i64 f.op, .bool f.masked, .int .u8 f.k0, .int .u8 f.k1, .int .u8 f.k2, .int .u8 f.k3, .string f.data]
theorem Fr.cl_cs (f : Fr) : f.cl.toArray = f.cs := rfl
theorem dec_fr : Dec 42 Fr.cl Fr.good :=
  (dec_five 1 1 1 4 1 Tryz.underlying42 rfl rfl rfl rfl rfl (by kernel_rfl) (by kernel_rfl) (by kernel_rfl) (by kernel_rfl) (by kernel_rfl) (by kernel_rfl)
    (dec_bool Tryz.underlying4) (dec_int Tryz.underlying3) (dec_bool Tryz.underlying4) dec_key (dec_string Tryz.underlying9)).iso
    (fun x => ⟨x.1, x.2.1, x.2.2.1, x.2.2.2.1.1, x.2.2.2.1.2.1, x.2.2.2.1.2.2.1, x.2.2.2.1.2.2.2, x.2.2.2.2⟩) (fun _ => rfl) (fun _ h => ⟨h.2.1, h.2.2.2.1, h.2.2.2.2⟩)
instance : Inhabited Fr := ⟨Fr.zero⟩
theorem open_frs {H : Type} {enc : TypeId × Value → H} {w : World} {base : Nat} {spare : Nat → Bool} {held : Bool} {A : Option Addr} {len cap : Nat} {d : DataW H} {p : List MemPlace}
    (h : DataW.Trod enc Tryz.prog w base spare held 51 (.slice A len cap) d p) : ∃ l : List Fr, l.length = len ∧ Rd w A (l.flatMap Fr.cl) ∧ (∀ x ∈ l, x.good) ∧ len ≤ cap ∧ cap ≤ maxLen :=
  open_rd 8 (fun _ => rfl) (by omega) Tryz.underlying51 (by kernel_rfl) dec_fr h
end Go.Proofs.YtlnabpoohnphiaaGreat
/- law17: acts and sizes as arguments. -/
namespace Go.Proofs.YtlnabpoohnphiaaGreat
open Go.RowKit
set_option linter.unusedSimpArgs false
set_option linter.unusedVariables false

theorem dec_four {α β γ δ : Type} {t : TypeId} {f0 f1 f2 f3 : Field} {c0 : α → List Value} {c1 : β → List Value} {c2 : γ → List Value} {c3 : δ → List Value} {g0 : α → Prop} {g1 : β → Prop} {g2 : γ → Prop} {g3 : δ → Prop} (s0 s1 s2 s3 : Nat)
    (ht : Tryz.prog.underlying t = some (.struct #[f0, f1, f2, f3])) (o0 : f0.offset = 0) (o1 : f1.offset = s0) (o2 : f2.offset = s0 + s1) (o3 : f3.offset = s0 + s1 + s2)
    (k0 : Tryz.prog.cellsOf f0.type = s0) (k1 : Tryz.prog.cellsOf f1.type = s1) (k2 : Tryz.prog.cellsOf f2.type = s2) (k3 : Tryz.prog.cellsOf f3.type = s3)
    (hC : Tryz.prog.cellsOf t = s0 + s1 + s2 + s3) (h0 : Dec f0.type c0 g0) (h1 : Dec f1.type c1 g1) (h2 : Dec f2.type c2 g2) (h3 : Dec f3.type c3 g3) :
    Dec t (fun x : α × β × γ × δ => c0 x.1 ++ (c1 x.2.1 ++ (c2 x.2.2.1 ++ c3 x.2.2.2))) (fun x => g0 x.1 ∧ g1 x.2.1 ∧ g2 x.2.2.1 ∧ g3 x.2.2.2) := by
  intro H enc w base spare held fuel cs y h
  obtain ⟨xs, n, _, _, hlen, hx, hf⟩ := DataW.trod_struct ht h
  have e0 := hf 0 f0 rfl
  have e1 := hf 1 f1 rfl
  have e2 := hf 2 f2 rfl
  have e3 := hf 3 f3 rfl
  obtain ⟨y0, q0⟩ : ∃ y0, xs[0]? = some y0 := ⟨_, List.getElem?_eq_getElem (by rw [hx]; simp)⟩
  obtain ⟨y1, q1⟩ : ∃ y1, xs[1]? = some y1 := ⟨_, List.getElem?_eq_getElem (by rw [hx]; simp)⟩
  obtain ⟨y2, q2⟩ : ∃ y2, xs[2]? = some y2 := ⟨_, List.getElem?_eq_getElem (by rw [hx]; simp)⟩
  obtain ⟨y3, q3⟩ : ∃ y3, xs[3]? = some y3 := ⟨_, List.getElem?_eq_getElem (by rw [hx]; simp)⟩
  rw [q0] at e0
  rw [q1] at e1
  rw [q2] at e2
  rw [q3] at e3
  obtain ⟨x0, a0, b0⟩ := h0 _ _ _ _ _ _ _ _ _ e0
  obtain ⟨x1, a1, b1⟩ := h1 _ _ _ _ _ _ _ _ _ e1
  obtain ⟨x2, a2, b2⟩ := h2 _ _ _ _ _ _ _ _ _ e2
  obtain ⟨x3, a3, b3⟩ := h3 _ _ _ _ _ _ _ _ _ e3
  rw [o0, k0, List.drop_zero] at a0
  rw [o1, k1] at a1
  rw [o2, k2, ← List.drop_drop] at a2
  rw [o3, k3, List.take_of_length_le (by rw [List.length_drop]; omega), ← List.drop_drop, ← List.drop_drop] at a3
  refine ⟨(x0, x1, x2, x3), ?_, b0, b1, b2, b3⟩
  show cs = c0 x0 ++ (c1 x1 ++ (c2 x2 ++ c3 x3))
  rw [← a0, ← a1, ← a2, ← a3, List.take_append_drop, List.take_append_drop, List.take_append_drop]
theorem dec_u5 : Dec 22 (fun x : Int × Int × Int × Int × Int => [.int .u8 x.1, .int .u8 x.2.1, .int .u8 x.2.2.1, .int .u8 x.2.2.2.1, .int .u8 x.2.2.2.2]) (fun x => bytesIn [x.1, x.2.1, x.2.2.1, x.2.2.2.1, x.2.2.2.2]) := by
  intro H enc w base spare held fuel cs y h
  obtain ⟨xs, m, _, _, hlen, hx, hf⟩ := DataW.trod_array Tryz.underlying22 h
  have hc1 : Tryz.prog.cellsOf 5 = 1 := by kernel_rfl
  have hc5 : Tryz.prog.cellsOf 22 = 5 := by kernel_rfl
  rw [hc5] at hlen
  obtain ⟨c0, c1, c2, c3, c4, rfl⟩ : ∃ c0 c1 c2 c3 c4, cs = [c0, c1, c2, c3, c4] := by
    rcases cs with _ | ⟨a0, _ | ⟨a1, _ | ⟨a2, _ | ⟨a3, _ | ⟨a4, _ | ⟨a5, K⟩⟩⟩⟩⟩⟩ <;> simp at hlen
    exact ⟨_, _, _, _, _, rfl⟩
  have hg : ∀ (i : Nat) (c : Value), ([c0, c1, c2, c3, c4].drop (i * 1)).take 1 = [c] → i < 5 → ∃ n, c = .int .u8 n ∧ 0 ≤ n ∧ n ≤ 255 := by
    intro i c hc hi
    have e := hf i hi
    rw [hc1, hc] at e
    obtain ⟨yi, hyi⟩ : ∃ yi, xs[i]? = some yi := ⟨_, List.getElem?_eq_getElem (by rw [hx]; exact hi)⟩
    rw [hyi] at e
    obtain ⟨n, hn, _, hw⟩ := DataW.trod_int Tryz.underlying5 e
    injection hn with hn
    exact ⟨n, hn, u8_bounds hw⟩
  obtain ⟨n0, rfl, a0, b0⟩ := hg 0 c0 rfl (by omega)
  obtain ⟨n1, rfl, a1, b1⟩ := hg 1 c1 rfl (by omega)
  obtain ⟨n2, rfl, a2, b2⟩ := hg 2 c2 rfl (by omega)
  obtain ⟨n3, rfl, a3, b3⟩ := hg 3 c3 rfl (by omega)
  obtain ⟨n4, rfl, a4, b4⟩ := hg 4 c4 rfl (by omega)
  refine ⟨(n0, n1, n2, n3, n4), rfl, ?_⟩
  intro x hx'
  simp at hx'
  omega
/-- An act. -/
structure Act2 where
  kind : Int
  side : Int
  n : Int
  s : ByteArray
def Act2.cl (x : Act2) : List Value := [.int .i64 x.kind, .int .i64 x.side, .int .i64 x.n, .string x.s]
def Act2.good (x : Act2) : Prop := x.s.size ≤ maxLen
instance : Inhabited Act2 := ⟨⟨0, 0, 0, ⟨#[]⟩⟩⟩
theorem dec_act2 : Dec 64 Act2.cl Act2.good :=
  (dec_four 1 1 1 1 Tryz.underlying64 rfl rfl rfl rfl (by kernel_rfl) (by kernel_rfl) (by kernel_rfl) (by kernel_rfl) (by kernel_rfl)
    (dec_int Tryz.underlying3) (dec_int Tryz.underlying3) (dec_int Tryz.underlying3) (dec_string Tryz.underlying9)).iso
    (fun x => ⟨x.1, x.2.1, x.2.2.1, x.2.2.2⟩) (fun _ => rfl) (fun _ h => h.2.2.2)
theorem open_acts2 {H : Type} {enc : TypeId × Value → H} {w : World} {base : Nat} {spare : Nat → Bool} {held : Bool} {A : Option Addr} {len cap : Nat} {d : DataW H} {p : List MemPlace}
    (h : DataW.Trod enc Tryz.prog w base spare held 61 (.slice A len cap) d p) : ∃ l : List Act2, l.length = len ∧ Rd w A (l.flatMap Act2.cl) ∧ (∀ x ∈ l, x.good) ∧ len ≤ cap ∧ cap ≤ maxLen :=
  open_rd 4 (fun _ => rfl) (by omega) Tryz.underlying61 (by kernel_rfl) dec_act2 h
end Go.Proofs.YtlnabpoohnphiaaGreat
/- ring: what its bytes are, in plain Lean. -/
namespace Go.Proofs.YtlnabpoohnphiaaGreat
open Go.RowKit
set_option linter.unusedSimpArgs false
set_option linter.unusedVariables false

/-- A place, turned round once. -/
def wrp (M a : Nat) : Nat := if a < M then a else a - M
theorem wrp_mod {M a : Nat} (hM : 0 < M) (h : a < 2 * M) : a % M = wrp M a := by
  unfold wrp
  split
  · exact Nat.mod_eq_of_lt ‹_›
  · rw [Nat.mod_eq_sub_mod (by omega), Nat.mod_eq_of_lt (by omega)]
theorem wrp_lt {M a : Nat} (hM : 0 < M) (h : a < 2 * M) : wrp M a < M := by
  unfold wrp
  split <;> omega
theorem wrp_or (M a : Nat) : (a < M ∧ wrp M a = a) ∨ (M ≤ a ∧ wrp M a = a - M) := by
  unfold wrp
  split <;> omega
/-- What a ring holds. -/
def rc (buf : List Int) (s size : Nat) : List Int := (List.range size).map fun i => buf.getD (wrp buf.length (s + i)) 0
theorem rc_length (buf : List Int) (s size : Nat) : (rc buf s size).length = size := by simp [rc]
theorem rc_get (buf : List Int) (s size i : Nat) (h : i < size) : (rc buf s size)[i]? = some (buf.getD (wrp buf.length (s + i)) 0) := by
  simp [rc, List.getElem?_map, h]
theorem splice_get {α : Type} (L : List α) (off : Nat) (cs : List α) (h : off + cs.length ≤ L.length) (i : Nat) : (splice L off cs)[i]? = if i < off then L[i]? else if i < off + cs.length then cs[i - off]? else L[i]? := by
  unfold splice
  rw [List.getElem?_append, List.length_take, Nat.min_eq_left (by omega)]
  split
  · rw [List.getElem?_take, if_pos (by omega)]
  · rw [List.getElem?_append]
    split
    · rw [if_pos (by omega)]
    · rw [if_neg (by omega), List.getElem?_drop]
      congr 1
      omega
theorem getD_of {l : List Int} {i : Nat} {x : Int} (h : l[i]? = some x) : l.getD i 0 = x := by simp [List.getD, h]
theorem rc_put (buf bs : List Int) (M s size E n : Nat) (hM : buf.length = M) (hs : s < M) (hk : size + bs.length ≤ M) (hE : E = wrp M (s + size)) (hn : n = min bs.length (M - E)) :
    rc (splice (splice buf E (bs.take n)) 0 (bs.drop n)) s (size + bs.length) = rc buf s size ++ bs := by
  have hEM : E < M := by rw [hE]; exact wrp_lt (by omega) (by omega)
  have ht : (bs.take n).length = n := by rw [List.length_take]; omega
  have hd : (bs.drop n).length = bs.length - n := by rw [List.length_drop]
  have hf : E + (bs.take n).length ≤ buf.length := by rw [ht]; omega
  have hl1 : (splice buf E (bs.take n)).length = M := by rw [length_splice _ _ _ hf, hM]
  have hf2 : 0 + (bs.drop n).length ≤ (splice buf E (bs.take n)).length := by rw [hl1, hd]; omega
  have hl2 : (splice (splice buf E (bs.take n)) 0 (bs.drop n)).length = M := by rw [length_splice _ _ _ hf2, hl1]
  apply List.ext_getElem?
  intro i
  by_cases hi : i < size + bs.length
  · rw [rc_get _ _ _ _ hi, hl2, List.getElem?_append, rc_length]
    have key : ∀ j, j < M → (splice (splice buf E (bs.take n)) 0 (bs.drop n))[j]? = if j < bs.length - n then bs[n + j]? else if E ≤ j ∧ j < E + n then bs[j - E]? else buf[j]? := by
      intro j hj
      rw [splice_get _ _ _ hf2, hd, splice_get _ _ _ hf, ht, List.getElem?_drop, List.getElem?_take, if_neg (by omega)]
      simp only [Nat.zero_add, Nat.sub_zero]
      split
      · rfl
      · by_cases h1 : j < E
        · rw [if_pos h1, if_neg (by omega)]
        · rw [if_neg h1]
          by_cases h2 : j < E + n
          · rw [if_pos h2, if_pos (by omega), if_pos (by omega)]
          · rw [if_neg h2, if_neg (by omega)]
    have hw : wrp M (s + i) < M := wrp_lt (by omega) (by omega)
    split
    · rename_i his
      rw [rc_get _ _ _ _ his, hM]
      congr 1
      have := key _ hw
      rw [if_neg (by rcases wrp_or M (s + size) with ⟨q1, q2⟩ | ⟨q1, q2⟩ <;> rcases wrp_or M (s + i) with ⟨q3, q4⟩ | ⟨q3, q4⟩ <;> omega), if_neg (by rcases wrp_or M (s + size) with ⟨q1, q2⟩ | ⟨q1, q2⟩ <;> rcases wrp_or M (s + i) with ⟨q3, q4⟩ | ⟨q3, q4⟩ <;> omega)] at this
      simp only [List.getD, this]
    · rename_i his
      have hb : i - size < bs.length := by omega
      rw [List.getElem?_eq_getElem hb]
      congr 1
      apply getD_of
      rw [key _ hw]
      by_cases h1 : wrp M (s + i) < bs.length - n
      · rw [if_pos h1, show n + wrp M (s + i) = i - size from by rcases wrp_or M (s + size) with ⟨q1, q2⟩ | ⟨q1, q2⟩ <;> rcases wrp_or M (s + i) with ⟨q3, q4⟩ | ⟨q3, q4⟩ <;> omega, List.getElem?_eq_getElem hb]
      · rw [if_neg h1, if_pos (by rcases wrp_or M (s + size) with ⟨q1, q2⟩ | ⟨q1, q2⟩ <;> rcases wrp_or M (s + i) with ⟨q3, q4⟩ | ⟨q3, q4⟩ <;> omega), show wrp M (s + i) - E = i - size from by rcases wrp_or M (s + size) with ⟨q1, q2⟩ | ⟨q1, q2⟩ <;> rcases wrp_or M (s + i) with ⟨q3, q4⟩ | ⟨q3, q4⟩ <;> omega, List.getElem?_eq_getElem hb]
  · rw [List.getElem?_eq_none (by rw [rc_length]; omega), List.getElem?_eq_none (by rw [List.length_append, rc_length]; omega)]
theorem rc_peek (buf : List Int) (M s k n : Nat) (hM : buf.length = M) (hs : s < M) (hk : k ≤ M) (hn : n = min k (M - s)) : (buf.drop s).take n ++ buf.take (k - n) = rc buf s k := by
  apply List.ext_getElem?
  intro i
  by_cases hi : i < k
  · rw [rc_get _ _ _ _ hi, hM, List.getElem?_append, List.length_take, List.length_drop, hM]
    have hb : wrp M (s + i) < M := wrp_lt (by omega) (by omega)
    have hb2 : wrp M (s + i) < buf.length := by omega
    have hg : buf[wrp M (s + i)]? = some (buf.getD (wrp M (s + i)) 0) := by simp [List.getD, List.getElem?_eq_getElem hb2]
    rw [← hg]
    split
    · rw [List.getElem?_take, if_pos (by omega), List.getElem?_drop]
      congr 1
      unfold wrp; split <;> omega
    · rw [List.getElem?_take, if_pos (by omega)]
      congr 1
      unfold wrp; split <;> omega
  · rw [List.getElem?_eq_none (by rw [List.length_append, List.length_take, List.length_take, List.length_drop]; omega), List.getElem?_eq_none (by rw [rc_length]; omega)]
theorem rc_take (buf : List Int) (s k size : Nat) (hk : k ≤ size) : (rc buf s size).take k = rc buf s k := by
  apply List.ext_getElem?
  intro i
  rw [List.getElem?_take]
  split
  · rw [rc_get _ _ _ _ (by omega), rc_get _ _ _ _ (by omega)]
  · rw [List.getElem?_eq_none (by rw [rc_length]; omega)]
theorem rc_drop (buf : List Int) (M s k size : Nat) (hM : buf.length = M) (hs : s < M) (hz : size ≤ M) (hk : k ≤ size) : (rc buf s size).drop k = rc buf (wrp M (s + k)) (size - k) := by
  apply List.ext_getElem?
  intro i
  rw [List.getElem?_drop]
  by_cases hi : k + i < size
  · rw [rc_get _ _ _ _ hi, rc_get _ _ _ _ (by omega), hM]
    congr 2
    unfold wrp; split <;> split <;> (try split) <;> omega
  · rw [List.getElem?_eq_none (by rw [rc_length]; omega), List.getElem?_eq_none (by rw [rc_length]; omega)]
theorem bytesIn_splice {L cs : List Int} (h : bytesIn L) (h2 : bytesIn cs) (off : Nat) : bytesIn (splice L off cs) := by
  intro x hx
  unfold splice at hx
  rcases List.mem_append.1 hx with hx | hx
  · exact h x (List.mem_of_mem_take hx)
  · rcases List.mem_append.1 hx with hx | hx
    · exact h2 x hx
    · exact h x (List.mem_of_mem_drop hx)
theorem u8s_splice (L cs : List Int) (off : Nat) : splice (u8s L) off (u8s cs) = u8s (splice L off cs) := by
  simp [splice, u8s, List.map_take, List.map_drop]
end Go.Proofs.YtlnabpoohnphiaaGreat
