/- Arguments of a law, opened to plain data: ints, bools, strings, structs, slices of these, by one decoder a type. | What the rows ask of the program as a whole, once. -/
import Derived.Test.YtkhppojlabajaaaZ01
import Derived.Test.YtkhppojlabajaaaRows
import Derived.ProofKit
import Derived.OpenShut
import Derived.ShutString
import Derived.ChangeOld
import Derived.Below
import Derived.Deep.Slices
import Derived.Deep.Fields
import Derived.ChangeSame
import Derived.SizedLaws
import Derived.JoinedOf
/- Arguments of a law, opened to plain data: ints, bools, strings, structs, slices of these, by one decoder a type. -/
namespace Go.Proofs.Ytkhppojlabajaaa
open Go.ChangeShapes Go.WideShapes Go.ChangeAt Go.RowKit Go.Deep
set_option linter.unusedSimpArgs false
set_option linter.unusedVariables false
set_option linter.unusedVariables false

theorem own : ownKnob Try.prog.godebug = none := by kernel_rfl
theorem laidOut : laidOutB Try.prog = true := by kernel_rfl

/-- Cells of type t that read as data are the cells of a plain value x that is good. -/
def Dec {α : Type} (t : TypeId) (cells : α → List Value) (good : α → Prop) : Prop :=
  ∀ (H : Type) (enc : TypeId × Value → H) (w : World) (base : Nat) (spare : Nat → Bool) (held : Bool) (fuel : Nat) (cs : List Value) (y : DataW H × List MemPlace),
    DataW.trod enc Try.prog w base spare held fuel t cs = some y → ∃ x : α, cs = cells x ∧ good x

theorem dec_int {t : TypeId} {k : IntKind} (ht : Try.prog.underlying t = some (.int k)) : Dec t (fun x : Int => [.int k x]) (fun x => (Lit.int k x).wf = true) := by
  intro H enc w base spare held fuel cs y h
  obtain ⟨n, rfl, _, hw⟩ := DataW.trod_int ht h
  exact ⟨n, rfl, hw⟩
theorem dec_bool {t : TypeId} (ht : Try.prog.underlying t = some .bool) : Dec t (fun x : Bool => [.bool x]) (fun _ => True) := by
  intro H enc w base spare held fuel cs y h
  obtain ⟨n, rfl, _⟩ := DataW.trod_bool ht h
  exact ⟨n, rfl, trivial⟩
theorem dec_string {t : TypeId} (ht : Try.prog.underlying t = some .string) : Dec t (fun x : ByteArray => [.string x]) (fun x => x.size ≤ maxLen) := by
  intro H enc w base spare held fuel cs y h
  obtain ⟨n, rfl, _, hw⟩ := DataW.trod_string ht h
  exact ⟨n, rfl, hw⟩
/-- A struct of two fields whose decoders are known, of s0 and s1 cells; and so on. -/
theorem dec_pair {α β : Type} {t : TypeId} {f0 f1 : Field} {c0 : α → List Value} {c1 : β → List Value} {g0 : α → Prop} {g1 : β → Prop} (s0 s1 : Nat)
    (ht : Try.prog.underlying t = some (.struct #[f0, f1])) (o0 : f0.offset = 0) (o1 : f1.offset = s0) (k0 : Try.prog.cellsOf f0.type = s0) (k1 : Try.prog.cellsOf f1.type = s1) (hC : Try.prog.cellsOf t = s0 + s1)
    (h0 : Dec f0.type c0 g0) (h1 : Dec f1.type c1 g1) : Dec t (fun x : α × β => c0 x.1 ++ c1 x.2) (fun x => g0 x.1 ∧ g1 x.2) := by
  intro H enc w base spare held fuel cs y h
  obtain ⟨xs, n, _, _, hlen, hx, hf⟩ := DataW.trod_struct ht h
  have e0 := hf 0 f0 rfl
  have e1 := hf 1 f1 rfl
  have q0 : ∃ y0, xs[0]? = some y0 := ⟨_, List.getElem?_eq_getElem (by rw [hx]; simp)⟩
  have q1 : ∃ y1, xs[1]? = some y1 := ⟨_, List.getElem?_eq_getElem (by rw [hx]; simp)⟩
  obtain ⟨y0, q0⟩ := q0
  obtain ⟨y1, q1⟩ := q1
  rw [q0] at e0
  rw [q1] at e1
  obtain ⟨x0, a0, b0⟩ := h0 _ _ _ _ _ _ _ _ _ e0
  obtain ⟨x1, a1, b1⟩ := h1 _ _ _ _ _ _ _ _ _ e1
  rw [o0, k0, List.drop_zero] at a0
  rw [o1, k1, List.take_of_length_le (by rw [List.length_drop]; omega)] at a1
  refine ⟨(x0, x1), ?_, b0, b1⟩
  show cs = c0 x0 ++ c1 x1
  rw [← a0, ← a1, List.take_append_drop]
theorem dec_trip {α β γ : Type} {t : TypeId} {f0 f1 f2 : Field} {c0 : α → List Value} {c1 : β → List Value} {c2 : γ → List Value} {g0 : α → Prop} {g1 : β → Prop} {g2 : γ → Prop} (s0 s1 s2 : Nat)
    (ht : Try.prog.underlying t = some (.struct #[f0, f1, f2])) (o0 : f0.offset = 0) (o1 : f1.offset = s0) (o2 : f2.offset = s0 + s1) (k0 : Try.prog.cellsOf f0.type = s0) (k1 : Try.prog.cellsOf f1.type = s1) (k2 : Try.prog.cellsOf f2.type = s2)
    (hC : Try.prog.cellsOf t = s0 + s1 + s2) (h0 : Dec f0.type c0 g0) (h1 : Dec f1.type c1 g1) (h2 : Dec f2.type c2 g2) : Dec t (fun x : α × β × γ => c0 x.1 ++ (c1 x.2.1 ++ c2 x.2.2)) (fun x => g0 x.1 ∧ g1 x.2.1 ∧ g2 x.2.2) := by
  intro H enc w base spare held fuel cs y h
  obtain ⟨xs, n, _, _, hlen, hx, hf⟩ := DataW.trod_struct ht h
  have e0 := hf 0 f0 rfl
  have e1 := hf 1 f1 rfl
  have e2 := hf 2 f2 rfl
  obtain ⟨y0, q0⟩ : ∃ y0, xs[0]? = some y0 := ⟨_, List.getElem?_eq_getElem (by rw [hx]; simp)⟩
  obtain ⟨y1, q1⟩ : ∃ y1, xs[1]? = some y1 := ⟨_, List.getElem?_eq_getElem (by rw [hx]; simp)⟩
  obtain ⟨y2, q2⟩ : ∃ y2, xs[2]? = some y2 := ⟨_, List.getElem?_eq_getElem (by rw [hx]; simp)⟩
  rw [q0] at e0
  rw [q1] at e1
  rw [q2] at e2
  obtain ⟨x0, a0, b0⟩ := h0 _ _ _ _ _ _ _ _ _ e0
  obtain ⟨x1, a1, b1⟩ := h1 _ _ _ _ _ _ _ _ _ e1
  obtain ⟨x2, a2, b2⟩ := h2 _ _ _ _ _ _ _ _ _ e2
  rw [o0, k0, List.drop_zero] at a0
  rw [o1, k1] at a1
  rw [o2, k2, List.take_of_length_le (by rw [List.length_drop]; omega)] at a2
  refine ⟨(x0, x1, x2), ?_, b0, b1, b2⟩
  have hd : cs.drop (s0 + s1) = (cs.drop s0).drop s1 := by rw [List.drop_drop]
  show cs = c0 x0 ++ (c1 x1 ++ c2 x2)
  rw [← a0, ← a1, ← a2, hd, List.take_append_drop, List.take_append_drop]
theorem Dec.iso {α β : Type} {t : TypeId} {c : α → List Value} {g : α → Prop} {c' : β → List Value} {g' : β → Prop} (h : Dec t c g) (f : α → β) (hc : ∀ x, c x = c' (f x)) (hg : ∀ x, g x → g' (f x)) : Dec t c' g' := by
  intro H enc w base spare held fuel cs y hy
  obtain ⟨x, hx, hgx⟩ := h _ _ _ _ _ _ _ _ _ hy
  exact ⟨f x, by rw [hx, hc], hg x hgx⟩

theorem flatMap_at {α : Type} (cells : α → List Value) (s : Nat) (hs : ∀ x, (cells x).length = s) (f : Nat → α) (n : Nat) : ∀ (j : Nat) (u : Value), (((List.range n).map f).flatMap cells)[j]? = some u → ∃ i k, i < n ∧ k < s ∧ j = i * s + k ∧ (cells (f i))[k]? = some u := by
  induction n with
  | zero => intro j u h; simp at h
  | succ n ih =>
    intro j u h
    rw [List.range_succ, List.map_append, List.flatMap_append] at h
    have hl : (((List.range n).map f).flatMap cells).length = n * s := by
      clear h ih
      induction n with
      | zero => simp
      | succ n ih => rw [List.range_succ, List.map_append, List.flatMap_append, List.length_append, ih]; simp [hs, Nat.succ_mul]
    by_cases hj : j < n * s
    · rw [List.getElem?_append_left (by omega)] at h
      obtain ⟨i, k, hi, r⟩ := ih j u h
      exact ⟨i, k, by omega, r⟩
    · rw [List.getElem?_append_right (by omega), hl] at h
      simp only [List.map_cons, List.map_nil, List.flatMap_cons, List.flatMap_nil, List.append_nil] at h
      have hk := (List.getElem?_eq_some_iff.1 h).1
      rw [hs] at hk
      exact ⟨n, j - n * s, by omega, hk, by omega, h⟩

/-- A slice that came in, of elements that a decoder reads. -/
theorem open_rd {α : Type} [Inhabited α] {t e : TypeId} {cells : α → List Value} {good : α → Prop} (s : Nat) (hs : ∀ x, (cells x).length = s) (h0 : 0 < s) (ht : Try.prog.underlying t = some (.slice e)) (hC : Try.prog.cellsOf e = s) (hd : Dec e cells good)
    {H : Type} {enc : TypeId × Value → H} {w : World} {base : Nat} {spare : Nat → Bool} {held : Bool} {A : Option Addr} {len cap : Nat} {d : DataW H} {p : List MemPlace}
    (h : DataW.Trod enc Try.prog w base spare held t (.slice A len cap) d p) : ∃ l : List α, l.length = len ∧ Rd w A (l.flatMap cells) ∧ (∀ x ∈ l, good x) ∧ len ≤ cap ∧ cap ≤ maxLen := by
  obtain ⟨fuel, hf⟩ := h
  rcases open_slice ht hf with ⟨hcs, _⟩ | ⟨a, len', cap', m, n, D, Pl, hcs, hb, hl, hm, hmm, _, hi⟩
  · simp [Value.cells] at hcs
    obtain ⟨rfl, rfl, rfl⟩ := hcs
    exact ⟨[], rfl, fun h => absurd rfl h, by simp, Nat.le_refl _, by simp [maxLen]⟩
  · simp [Value.cells] at hcs
    obtain ⟨rfl, rfl, rfl⟩ := hcs
    have hlm : len ≤ m := by rw [hmm]; split <;> omega
    have hex : ∀ i, i < len → ∃ x : α, good x ∧ ∀ k, k < s → w.cell? ((a.add (i * s)).add k) = (cells x)[k]? := by
      intro i hil
      obtain ⟨cs', hc, ht'⟩ := hi i (by omega)
      rw [hC] at hc
      obtain ⟨x, rfl, hg⟩ := hd _ _ _ _ _ _ _ _ _ ht'
      obtain ⟨_, _, hat⟩ := World.cells?_some hc
      exact ⟨x, hg, hat⟩
    obtain ⟨f, hfx⟩ := choose_lt hex
    refine ⟨(List.range len).map f, by simp, fun hne => ?_, ?_, hl, hm⟩
    · have hpos : 0 < len := by
        rcases Nat.eq_zero_or_pos len with h | h
        · subst h; simp at hne
        · exact h
      obtain ⟨b, off, spot⟩ := a
      have hc0 := (hfx 0 hpos).2 0 h0
      have hcell : ∃ v, (cells (f 0))[0]? = some v := ⟨_, List.getElem?_eq_getElem (by rw [hs]; exact h0)⟩
      obtain ⟨v, hv⟩ := hcell
      rw [hv] at hc0
      have hspot : spot = none := by simpa [Addr.add] using World.cell?_spot hc0
      subst hspot
      refine ⟨b, off, rfl, by simpa [Addr.add] using World.block_lt_of_cell? w _ hc0, fun j u hu => ?_⟩
      obtain ⟨i, k, hil, hk, rfl, hcu⟩ := flatMap_at cells s hs f len j u hu
      have := (hfx i hil).2 k hk
      rw [add_plain, add_plain, hcu, Nat.add_assoc] at this
      exact this
    · intro x hx
      simp at hx
      obtain ⟨i, hil, rfl⟩ := hx
      exact (hfx i hil).1

/-- A struct (an array) by value. -/
theorem open_val {α : Type} {t : TypeId} {cells : α → List Value} {good : α → Prop} (hd : Dec t cells good) {H : Type} {enc : TypeId × Value → H} {w : World} {base : Nat} {spare : Nat → Bool} {held : Bool} {cs : Array Value} {d : DataW H} {p : List MemPlace}
    (h : DataW.Trod enc Try.prog w base spare held t (.agg cs) d p) : ∃ x : α, cs = (cells x).toArray ∧ good x := by
  obtain ⟨fuel, hf⟩ := h
  obtain ⟨x, hx, hg⟩ := hd _ _ _ _ _ _ _ _ _ hf
  refine ⟨x, ?_, hg⟩
  have : cs.toList = cells x := hx
  rw [← this]
theorem trod_lt {H : Type} {enc : TypeId × Value → H} {w : World} {spare : Nat → Bool} {held : Bool} {t : TypeId} {v : Value} {d : DataW H} {p : List MemPlace} (h : DataW.Trod enc Try.prog w 0 spare held t v d p) : ∀ x ∈ p, x.block < w.heap.size := by
  obtain ⟨m, hm⟩ := h
  exact DataW.trod_lt m _ _ _ hm
theorem open_num {t e : TypeId} {k : IntKind} (ht : Try.prog.underlying t = some (.slice e)) (he : Try.prog.underlying e = some (.int k)) (hC : Try.prog.cellsOf e = 1) {H : Type} {enc : TypeId × Value → H} {w : World} {base : Nat} {spare : Nat → Bool} {held : Bool} {A : Option Addr} {len cap : Nat} {d : DataW H} {p : List MemPlace}
    (h : DataW.Trod enc Try.prog w base spare held t (.slice A len cap) d p) : ∃ l : List Int, l.length = len ∧ Rd w A (l.flatMap fun x => [.int k x]) ∧ (∀ x ∈ l, (Lit.int k x).wf = true) ∧ len ≤ cap ∧ cap ≤ maxLen :=
  open_rd 1 (fun _ => rfl) (by omega) ht hC (dec_int he) h
theorem open_str {t e : TypeId} (ht : Try.prog.underlying t = some (.slice e)) (he : Try.prog.underlying e = some .string) (hC : Try.prog.cellsOf e = 1) {H : Type} {enc : TypeId × Value → H} {w : World} {base : Nat} {spare : Nat → Bool} {held : Bool} {A : Option Addr} {len cap : Nat} {d : DataW H} {p : List MemPlace}
    (h : DataW.Trod enc Try.prog w base spare held t (.slice A len cap) d p) : ∃ l : List ByteArray, l.length = len ∧ Rd w A (l.flatMap fun x => [.string x]) ∧ (∀ x ∈ l, x.size ≤ maxLen) ∧ len ≤ cap ∧ cap ≤ maxLen :=
  open_rd 1 (fun _ => rfl) (by omega) ht hC (dec_string he) h
end Go.Proofs.Ytkhppojlabajaaa
/- What the rows ask of the program as a whole, once. -/
namespace Go.Proofs.Ytkhppojlabajaaa
set_option linter.unusedSimpArgs false
set_option linter.unusedVariables false
def row0 : OpenClaim := { program := "", sum := "", func := "", spec := "" }
set_option maxRecDepth 100000 in
theorem seat_facts : (Try.prog.stopsHeard && Try.prog.mayEnter && (row0.lifted == Try.prog.liftsFinal) && (Try.prog.make == some row0.make)) = true := by kernel_rfl
set_option maxRecDepth 100000 in
theorem seat_fact5 : (laidOutB Try.prog && mapsRowed Try.prog) = true := by kernel_rfl
set_option maxRecDepth 100000 in
theorem seat_fact6 : (row0.plainKeys == Try.prog.plainKeys) = true := by kernel_rfl
set_option maxRecDepth 100000 in
theorem joined_mk (f : FuncId) (fn : Func) (s : ChangeSpec) (c : OpenClaim)
    (h1 : (c.wf (OpenSpec.ofChange s)) = true) (h2 : (fn.params.all (Try.prog.readableRec ·) && namedTie Try.prog c.named s.vars && (c.stops == []) && (Try.prog.stops == []) && (c.knobs == []) && (Try.prog.stopKnobs == [])) = true)
    (h3 : (c.inPlace == Try.prog.inPlace f) = true) (h4 : (c.unfollowed == Try.prog.unfollowed f) = true) (h5 : (c.recurses == Try.prog.recurses f) = true) (h6 : (c.named == Try.prog.varsNamed f) = true)
    (h7 : ((c.maps == (fn.params.toList ++ s.plain.varTypes Try.prog).any (Try.prog.mapsRec ·)) && (c.ifaces == (fn.params.toList ++ s.plain.varTypes Try.prog).any (Try.prog.ifacesRec ·)) && (c.mapsOut == Try.prog.mapsAmong fn.resultTypes.toList) &&
      (c.loops == (fn.params.toList ++ s.plain.varTypes Try.prog).any (Try.prog.loopsFrom ·)) && (c.wideKeys == (fn.params.toList ++ s.plain.varTypes Try.prog ++ fn.resultTypes.toList).any (Try.prog.wideKeysFrom ·)) &&
      s.vars.all (Try.prog.varReadable ·) && fn.resultTypes.all (fun t => Try.prog.readableRec t && decide (t < Try.prog.types.size)) && (c.ifacesOut == fn.resultTypes.toList.any (Try.prog.ifacesRec ·)) && (c.loopsOut == fn.resultTypes.toList.any (Try.prog.loopsFrom ·))) = true)
    (h8 : c.plainKeys = row0.plainKeys) (h9 : c.shortTexts.isNone = true) (h10 : c.lifted = row0.lifted) (h11 : c.make = row0.make)
    (h12 : ((c.kinds == (if c.domain.isEmpty then [] else fn.params.toList.map fun t => match Try.prog.underlying t with | some (.int k) => some k | _ => none)) && (c.pinned == c.pinnedBy) &&
      (c.veiled == (fn.params.toList ++ s.plain.varTypes Try.prog ++ fn.resultTypes.toList).any (Try.prog.veiledRec ·)) && c.veiledFits Try.prog fn.params.toList (fn.params.toList ++ s.plain.varTypes Try.prog ++ fn.resultTypes.toList)) = true) :
    joinedFacts Try.prog f fn s c = true := by
  have sf := seat_facts
  rw [Bool.and_eq_true, Bool.and_eq_true, Bool.and_eq_true] at sf
  obtain ⟨⟨⟨s1, s2⟩, s3⟩, s4⟩ := sf
  have s5 := seat_fact5
  have s6 := seat_fact6
  rw [← h8] at s6
  rw [← h10] at s3
  rw [← h11] at s4
  unfold joinedFacts
  simp only [Bool.and_eq_true] at *
  obtain ⟨t1, t2⟩ := s5
  obtain ⟨⟨⟨⟨⟨a1, a2⟩, a3⟩, a4⟩, a5⟩, a6⟩ := h2
  obtain ⟨⟨⟨⟨⟨⟨⟨⟨b1, b2⟩, b3⟩, b4⟩, b5⟩, b6⟩, b7⟩, b8⟩, b9⟩ := h7
  obtain ⟨⟨⟨d1, d2⟩, d3⟩, d4⟩ := h12
  refine ⟨⟨⟨⟨⟨⟨⟨⟨⟨⟨⟨⟨⟨⟨⟨⟨⟨⟨⟨⟨⟨⟨⟨⟨⟨⟨⟨⟨⟨⟨⟨h1, t1⟩, t2⟩, a1⟩, a2⟩, a3⟩, a4⟩, a5⟩, a6⟩, h3⟩, h4⟩, h5⟩, h6⟩, b1⟩, b2⟩, b3⟩, b4⟩, b5⟩, b6⟩, b7⟩, b8⟩, b9⟩, s6⟩, h9⟩, s1⟩, s2⟩, s3⟩, s4⟩, d1⟩, d2⟩, d3⟩, d4⟩
end Go.Proofs.Ytkhppojlabajaaa
