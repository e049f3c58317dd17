/- Frames and keys as arguments. -/
import Derived.Test.YtkhppojlabajaaaArg
import Derived.Test.YtkhppojlabajaaaFe
namespace Go.Proofs.Ytkhppojlabajaaa
open Go.RowKit
set_option linter.unusedSimpArgs false
set_option linter.unusedVariables false

theorem okWide_array {P : Program} {w : World} {r : Reach} {base : Nat} {t e : TypeId} {v : Value} {n : Nat} (ht : P.underlying t = some (.array n e)) (h : Value.okWide P w r base t v) : ∃ cs, v = .agg cs ∧ cs.size = P.cellsOf t := by
  simp only [Value.okWide, ht] at h
  obtain ⟨cs, h1, h2, _⟩ := h
  exact ⟨cs, h1, h2⟩
theorem dec_key : Dec 42 (fun x : Int × Int × Int × Int => [.int .u8 x.1, .int .u8 x.2.1, .int .u8 x.2.2.1, .int .u8 x.2.2.2]) (fun x => bytesIn [x.1, x.2.1, x.2.2.1, x.2.2.2]) := by
  intro H enc w base spare held fuel cs y h
  obtain ⟨xs, m, _, _, hlen, hx, hf⟩ := DataW.trod_array Try.underlying42 h
  have hc1 : Try.prog.cellsOf 5 = 1 := by kernel_rfl
  have hc4 : Try.prog.cellsOf 42 = 4 := by kernel_rfl
  rw [hc4] at hlen
  obtain ⟨c0, c1, c2, c3, rfl⟩ : ∃ c0 c1 c2 c3, cs = [c0, c1, c2, c3] := by
    rcases cs with _ | ⟨a0, _ | ⟨a1, _ | ⟨a2, _ | ⟨a3, _ | ⟨a4, K⟩⟩⟩⟩⟩ <;> simp at hlen
    exact ⟨_, _, _, _, rfl⟩
  have hg : ∀ (i : Nat) (c : Value), ([c0, c1, c2, c3].drop (i * 1)).take 1 = [c] → i < 4 → ∃ n, c = .int .u8 n ∧ 0 ≤ n ∧ n ≤ 255 := by
    intro i c hc hi
    have e := hf i hi
    rw [hc1, hc] at e
    obtain ⟨yi, hyi⟩ : ∃ yi, xs[i]? = some yi := ⟨_, List.getElem?_eq_getElem (by rw [hx]; exact hi)⟩
    rw [hyi] at e
    obtain ⟨n, hn, _, hw⟩ := DataW.trod_int Try.underlying5 e
    injection hn with hn
    exact ⟨n, hn, u8_bounds hw⟩
  obtain ⟨n0, rfl, a0, b0⟩ := hg 0 c0 rfl (by omega)
  obtain ⟨n1, rfl, a1, b1⟩ := hg 1 c1 rfl (by omega)
  obtain ⟨n2, rfl, a2, b2⟩ := hg 2 c2 rfl (by omega)
  obtain ⟨n3, rfl, a3, b3⟩ := hg 3 c3 rfl (by omega)
  refine ⟨(n0, n1, n2, n3), rfl, ?_⟩
  intro x hx'
  simp at hx'
  omega
theorem dec_five {α β γ δ ε : Type} {t : TypeId} {f0 f1 f2 f3 f4 : Field} {c0 : α → List Value} {c1 : β → List Value} {c2 : γ → List Value} {c3 : δ → List Value} {c4 : ε → List Value} {g0 : α → Prop} {g1 : β → Prop} {g2 : γ → Prop} {g3 : δ → Prop} {g4 : ε → Prop} (s0 s1 s2 s3 s4 : Nat)
    (ht : Try.prog.underlying t = some (.struct #[f0, f1, f2, f3, f4])) (o0 : f0.offset = 0) (o1 : f1.offset = s0) (o2 : f2.offset = s0 + s1) (o3 : f3.offset = s0 + s1 + s2) (o4 : f4.offset = s0 + s1 + s2 + s3)
    (k0 : Try.prog.cellsOf f0.type = s0) (k1 : Try.prog.cellsOf f1.type = s1) (k2 : Try.prog.cellsOf f2.type = s2) (k3 : Try.prog.cellsOf f3.type = s3) (k4 : Try.prog.cellsOf f4.type = s4)
    (hC : Try.prog.cellsOf t = s0 + s1 + s2 + s3 + s4) (h0 : Dec f0.type c0 g0) (h1 : Dec f1.type c1 g1) (h2 : Dec f2.type c2 g2) (h3 : Dec f3.type c3 g3) (h4 : Dec f4.type c4 g4) :
    Dec t (fun x : α × β × γ × δ × ε => c0 x.1 ++ (c1 x.2.1 ++ (c2 x.2.2.1 ++ (c3 x.2.2.2.1 ++ c4 x.2.2.2.2)))) (fun x => g0 x.1 ∧ g1 x.2.1 ∧ g2 x.2.2.1 ∧ g3 x.2.2.2.1 ∧ g4 x.2.2.2.2) := by
  intro H enc w base spare held fuel cs y h
  obtain ⟨xs, n, _, _, hlen, hx, hf⟩ := DataW.trod_struct ht h
  have e0 := hf 0 f0 rfl
  have e1 := hf 1 f1 rfl
  have e2 := hf 2 f2 rfl
  have e3 := hf 3 f3 rfl
  have e4 := hf 4 f4 rfl
  obtain ⟨y0, q0⟩ : ∃ y0, xs[0]? = some y0 := ⟨_, List.getElem?_eq_getElem (by rw [hx]; simp)⟩
  obtain ⟨y1, q1⟩ : ∃ y1, xs[1]? = some y1 := ⟨_, List.getElem?_eq_getElem (by rw [hx]; simp)⟩
  obtain ⟨y2, q2⟩ : ∃ y2, xs[2]? = some y2 := ⟨_, List.getElem?_eq_getElem (by rw [hx]; simp)⟩
  obtain ⟨y3, q3⟩ : ∃ y3, xs[3]? = some y3 := ⟨_, List.getElem?_eq_getElem (by rw [hx]; simp)⟩
  obtain ⟨y4, q4⟩ : ∃ y4, xs[4]? = some y4 := ⟨_, List.getElem?_eq_getElem (by rw [hx]; simp)⟩
  rw [q0] at e0
  rw [q1] at e1
  rw [q2] at e2
  rw [q3] at e3
  rw [q4] at e4
  obtain ⟨x0, a0, b0⟩ := h0 _ _ _ _ _ _ _ _ _ e0
  obtain ⟨x1, a1, b1⟩ := h1 _ _ _ _ _ _ _ _ _ e1
  obtain ⟨x2, a2, b2⟩ := h2 _ _ _ _ _ _ _ _ _ e2
  obtain ⟨x3, a3, b3⟩ := h3 _ _ _ _ _ _ _ _ _ e3
  obtain ⟨x4, a4, b4⟩ := h4 _ _ _ _ _ _ _ _ _ e4
  rw [o0, k0, List.drop_zero] at a0
  rw [o1, k1] at a1
  rw [o2, k2, ← List.drop_drop] at a2
  rw [o3, k3, ← List.drop_drop, ← List.drop_drop] at a3
  rw [o4, k4, List.take_of_length_le (by rw [List.length_drop]; omega), ← List.drop_drop, ← List.drop_drop, ← List.drop_drop] at a4
  refine ⟨(x0, x1, x2, x3, x4), ?_, b0, b1, b2, b3, b4⟩
  show cs = c0 x0 ++ (c1 x1 ++ (c2 x2 ++ (c3 x3 ++ c4 x4)))
  rw [← a0, ← a1, ← a2, ← a3, ← a4, List.take_append_drop, List.take_append_drop, List.take_append_drop, List.take_append_drop]
def Fr.cl (f : Fr) : List Value := [.bool f.fin, .int .i64 f.op, .bool f.masked, .int .u8 f.k0, .int .u8 f.k1, .int .u8 f.k2, .int .u8 f.k3, .string f.data]
theorem Fr.cl_cs (f : Fr) : f.cl.toArray = f.cs := rfl
theorem dec_fr : Dec 44 Fr.cl Fr.good :=
  (dec_five 1 1 1 4 1 Try.underlying44 rfl rfl rfl rfl rfl (by kernel_rfl) (by kernel_rfl) (by kernel_rfl) (by kernel_rfl) (by kernel_rfl) (by kernel_rfl)
    (dec_bool Try.underlying4) (dec_int Try.underlying3) (dec_bool Try.underlying4) dec_key (dec_string Try.underlying9)).iso
    (fun x => ⟨x.1, x.2.1, x.2.2.1, x.2.2.2.1.1, x.2.2.2.1.2.1, x.2.2.2.1.2.2.1, x.2.2.2.1.2.2.2, x.2.2.2.2⟩) (fun _ => rfl) (fun _ h => ⟨h.2.1, h.2.2.2.1, h.2.2.2.2⟩)
instance : Inhabited Fr := ⟨Fr.zero⟩
theorem open_frs {H : Type} {enc : TypeId × Value → H} {w : World} {base : Nat} {spare : Nat → Bool} {held : Bool} {A : Option Addr} {len cap : Nat} {d : DataW H} {p : List MemPlace}
    (h : DataW.Trod enc Try.prog w base spare held 23 (.slice A len cap) d p) : ∃ l : List Fr, l.length = len ∧ Rd w A (l.flatMap Fr.cl) ∧ (∀ x ∈ l, x.good) ∧ len ≤ cap ∧ cap ≤ maxLen :=
  open_rd 8 (fun _ => rfl) (by omega) Try.underlying23 (by kernel_rfl) dec_fr h
end Go.Proofs.Ytkhppojlabajaaa
