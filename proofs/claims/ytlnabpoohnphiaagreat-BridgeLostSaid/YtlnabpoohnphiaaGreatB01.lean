/- Words for memory, used by the walks of this seat: what a call may have touched (Touch), a slice that reads as a list of cells (Row, Rd), blocks that are known whole (Blk). | Arguments of a law, opened to plain data: ints, bools, strings, structs, slices of these, by one decoder a type. | What the rows ask of the program as a whole, once. | Bytes: rows of bytes, a string's bytes, conversions between them. | More words for memory: append from whatever slice. -/
import Derived.WalkKit
import Derived.Deep.Draws
import Derived.Lib.Hide
import Derived.Maps.AppendAt
import Derived.Deep.AppendLies
import Derived.RegionTactic
import Derived.OwnWalk
import Derived.Test.YtlnabpoohnphiaaGreatRows
import Derived.ProofKit
import Derived.OpenShut
import Derived.ShutString
import Derived.ChangeOld
import Derived.Below
import Derived.Deep.Slices
import Derived.Deep.Fields
import Derived.ChangeSame
import Derived.SizedLaws
import Derived.JoinedOf
import Derived.Test.YtlnabpoohnphiaaGreatProg
import Derived.Lib.ConvBytes
import Derived.Lib.SlBytesRow
import Derived.Lib.SlBytesConst
import Derived.DataShut
import Derived.KernelRfl
import Derived.BigQuiet
import Derived.Deep.QuietTactic
import Derived.ChangeAlike
import Derived.Deep.RegionHeld3
import Derived.Deep.LoopGhost
import Derived.Deep.DeepCutAuto
import Derived.Deep.CutBlock
import Derived.IntWalk
/- Words for memory, used by the walks of this seat: what a call may have touched (Touch), a slice that reads as a list of cells (Row, Rd), blocks that are known whole (Blk). -/
namespace Go.Proofs.YtlnabpoohnphiaaGreat
open Go.RowKit
set_option linter.unusedSimpArgs false
set_option linter.unusedVariables false

theorem block_add (a : Addr) (n : Nat) : (a.add n).block = a.block := by unfold Addr.add; split <;> rfl

/-- w' is w with new blocks, draws, and writes to the old blocks of S alone. -/
structure Touch (S : Nat → Prop) (w w' : World) : Prop where
  os : w'.os = w.os
  tape : w'.tape = w.tape
  output : w'.output = w.output
  size : w.heap.size ≤ w'.heap.size
  block : ∀ k, k < w.heap.size → ¬ S k → w'.heap[k]? = w.heap[k]?

def NoS : Nat → Prop := fun _ => False
def At (g : Nat) : Nat → Prop := fun k => k = g

section
variable {S S' : Nat → Prop} {w w' a b c : World}
theorem Touch.refl (S : Nat → Prop) (w : World) : Touch S w w := ⟨rfl, rfl, rfl, Nat.le_refl _, fun _ _ _ => rfl⟩
theorem Touch.mono (h : Touch S w w') (hS : ∀ k, S k → S' k) : Touch S' w w' := ⟨h.os, h.tape, h.output, h.size, fun k hk hn => h.block k hk (fun hs => hn (hS k hs))⟩
/-- The second step may touch what is new behind the first one. -/
theorem Touch.trans' (h : Touch S a b) (k : Touch S' b c) (hS : ∀ i, i < a.heap.size → S' i → S i) : Touch S a c :=
  ⟨k.os.trans h.os, k.tape.trans h.tape, k.output.trans h.output, Nat.le_trans h.size k.size, fun i hi hn => (k.block i (Nat.lt_of_lt_of_le hi h.size) (fun hs => hn (hS i hi hs))).trans (h.block i hi hn)⟩
theorem Touch.trans (h : Touch S a b) (k : Touch S b c) : Touch S a c := h.trans' k fun _ _ hs => hs
theorem Touch.drew (h : Touch S a w) : Touch S a w.drew := ⟨h.os, h.tape, h.output, h.size, h.block⟩
theorem Touch.drewN (h : Touch S a w) (n : Nat) : Touch S a (w.drewN n) := ⟨h.os, h.tape, h.output, h.size, h.block⟩
theorem Touch.alloc (h : Touch S a w) (o : Obj) : Touch S a (w.alloc o) :=
  h.trans' (S' := NoS) ⟨rfl, rfl, rfl, by simp, fun k hk _ => Below.heap_alloc _ _ _ hk⟩ fun _ _ h => h.elim
theorem Touch.setCell (h : Touch S a w) {p : Addr} (hp : p.block < a.heap.size → S p.block) (u : Value) : Touch S a (w.setCell p u) :=
  h.trans' (S' := At p.block) ⟨rfl, rfl, rfl, by simp [World.setCell], fun k _ hk => Below.heap_setCell _ _ _ _ hk⟩ fun i hi he => by
    have he' : i = p.block := he
    subst he'
    exact hp hi
theorem Touch.setAt {g : Nat} (h : Touch (At g) a w) (i : Nat) (u : Value) : Touch (At g) a (w.setCell ⟨g, i, none⟩ u) := h.setCell (p := ⟨g, i, none⟩) (fun _ => (rfl : g = g)) u
theorem Touch.setNew (h : Touch S a w) {p : Addr} (hp : a.heap.size ≤ p.block) (u : Value) : Touch S a (w.setCell p u) := h.setCell (fun hl => absurd hl (by omega)) u
theorem Touch.of_no (h : Touch NoS a w) : Touch S a w := h.mono fun _ h => h.elim
theorem Touch.grown (h : Touch S a w) {row : Option Nat} (hg : w.grownBy w' row) (hr : ∀ k, row = some k → k < a.heap.size → S k) : Touch S a w' :=
  ⟨hg.os.trans h.os, hg.tape.trans h.tape, hg.output.trans h.output, Nat.le_trans h.size hg.size, fun k hk hn =>
    (hg.block k (Nat.lt_of_lt_of_le hk h.size) (fun e => hn (hr k e.symm hk))).trans (h.block k hk hn)⟩
theorem Touch.below (h : Touch NoS w w') : Below w.heap.size w w' := ⟨h.os, h.tape, h.output, h.size, fun k hk => h.block k hk (fun h => h)⟩
theorem Touch.of_below (h : Below w.heap.size w w') (S : Nat → Prop) : Touch S w w' := ⟨h.os, h.tape, h.output, h.size, fun k hk _ => h.block k hk⟩
/-- Only blocks from the size of a on are touched behind b. -/
theorem Touch.then_new (h : Touch S a b) (k : Touch S' b c) (hS : ∀ i, S' i → a.heap.size ≤ i ∨ S i) : Touch S a c :=
  h.trans' k fun i hi hs => (hS i hs).elim (fun h => absurd hi (by omega)) id
theorem Touch.at_new {g : Nat} (h : Touch NoS a b) (k : Touch (At g) b c) (hg : a.heap.size ≤ g) : Touch NoS a c :=
  h.trans' k fun i hi e => absurd hi (by have : i = g := e; omega)
end

theorem Touch.cell {w w' : World} {a : Addr} {v : Value} (h : Touch NoS w w') (hc : w.cell? a = some v) : w'.cell? a = some v :=
  (World.cell?_of_block (h.block a.block (World.block_lt_of_cell? w a hc) (fun h => h))).trans hc

/-- Block g is just the cells cs, of element type t. -/
def Blk (w : World) (g : Nat) (t : TypeId) (cs : Array Value) : Prop := w.heap[g]? = some (.cells cs t (0, 0))
section
variable {S : Nat → Prop} {w w' : World} {g : Nat} {t : TypeId} {cs : Array Value}
theorem Blk.lt (h : Blk w g t cs) : g < w.heap.size := (Array.getElem?_eq_some_iff.1 h).1
theorem Blk.cell (h : Blk w g t cs) (i : Nat) : w.cell? ⟨g, i, none⟩ = cs[i]? := cell_of_row w g i cs t (0, 0) h
theorem Blk.frozen (h : Blk w g t cs) (i : Nat) : w.frozen? ⟨g, i, none⟩ = false := by
  unfold Blk at h
  simp [World.frozen?, h]
theorem Blk.new (w : World) (t : TypeId) (cs : Array Value) : Blk (w.alloc (.cells cs t)) w.heap.size t cs := heap_alloc_new w _
theorem Blk.drew (h : Blk w g t cs) : Blk w.drew g t cs := h
theorem Blk.drewN (h : Blk w g t cs) (n : Nat) : Blk (w.drewN n) g t cs := h
theorem Blk.alloc (h : Blk w g t cs) (o : Obj) : Blk (w.alloc o) g t cs := (Below.heap_alloc w o g h.lt).trans h
theorem Blk.set_ (h : Blk w g t cs) (i : Nat) (u : Value) : Blk (w.setCell ⟨g, i, none⟩ u) g t (cs.setIfInBounds i u) := by
  unfold Blk at h ⊢
  simp [World.setCell, Array.getElem?_modify, h]
theorem Blk.far (h : Blk w g t cs) {p : Addr} (hp : g ≠ p.block) (u : Value) : Blk (w.setCell p u) g t cs := (Below.heap_setCell w p u g hp).trans h
theorem Blk.touch (h : Blk w g t cs) (k : Touch S w w') (hn : ¬ S g) : Blk w' g t cs := (k.block g h.lt hn).trans h
theorem Blk.grown {row : Option Nat} (h : Blk w g t cs) (hb : w.grownBy w' row) (hg : row ≠ some g) : Blk w' g t cs := (hb.block g h.lt (fun e => hg e.symm)).trans h
theorem Blk.ne_ {g' : Nat} {t' : TypeId} {cs' : Array Value} (h : Blk w g t cs) (h' : Blk w g' t' cs') (hne : t ≠ t') : g ≠ g' := by
  rintro rfl
  unfold Blk at h h'
  rw [h] at h'
  injection h' with h'
  injection h' with _ ht
  exact hne ht
end

/-- A slice's address that reads as the cells xs, in a block of element type e of the program's own making. -/
def Row (w : World) (e : TypeId) (A : Option Addr) (xs : List Value) : Prop :=
  xs ≠ [] → ∃ g off cs, A = some ⟨g, off, none⟩ ∧ Blk w g e cs ∧ ∀ j u, xs[j]? = some u → cs[off + j]? = some u
section
variable {S : Nat → Prop} {w w' : World} {e : TypeId} {A : Option Addr} {xs : List Value}
theorem Row.nil_ (w : World) (e : TypeId) (A : Option Addr) : Row w e A [] := fun h => absurd rfl h
theorem Row.cell (h : Row w e A xs) {j : Nat} {u : Value} (hj : xs[j]? = some u) : ∃ g off, A = some ⟨g, off, none⟩ ∧ w.cell? ⟨g, off + j, none⟩ = some u := by
  obtain ⟨g, off, cs, hA, hb, hc⟩ := h (by rintro rfl; simp at hj)
  exact ⟨g, off, hA, (hb.cell _).trans (hc j u hj)⟩
theorem Row.touch (h : Row w e A xs) (k : Touch S w w') (hn : ∀ g cs, Blk w g e cs → ¬ S g) : Row w' e A xs := fun hx => by
  obtain ⟨g, off, cs, hA, hb, hc⟩ := h hx
  exact ⟨g, off, cs, hA, hb.touch k (hn g cs hb), hc⟩
theorem Row.touch_at (h : Row w e A xs) {g0 : Nat} {t0 : TypeId} {cs0 : Array Value} (k : Touch (At g0) w w') (hb : Blk w g0 t0 cs0) (hne : e ≠ t0) : Row w' e A xs :=
  h.touch k fun _ _ hb' he => hb'.ne_ hb hne he
theorem Row.touch_no (h : Row w e A xs) (k : Touch NoS w w') : Row w' e A xs := h.touch k fun _ _ _ h => h
theorem Row.drop (h : Row w e A xs) (k : Nat) (hk : k < xs.length) : Row w e (A.map (·.add k)) (xs.drop k) := fun _ => by
  obtain ⟨g, off, cs, hA, hb, hc⟩ := h (by rintro rfl; simp at hk)
  refine ⟨g, off + k, cs, ?_, hb, fun j u hu => ?_⟩
  · subst hA
    by_cases h0 : k = 0
    · subst h0; simp [Addr.add]
    · simp [Addr.add, h0]
  · rw [List.getElem?_drop] at hu
    have := hc _ _ hu
    rwa [← Nat.add_assoc] at this
theorem Row.of_own {base : Nat} {size n c : Nat} (h : w.ownsRow base e size (.slice A n c) n xs) : Row w e A xs := fun hx => by
  rcases h.2 with ⟨_, hn⟩ | ⟨g, cap, cs, hv, _, hb, _, _, _, ht⟩
  · exact absurd (List.eq_nil_of_length_eq_zero (by rw [h.1, hn]; simp)) hx
  · injection hv with hA
    subst hA
    refine ⟨g, 0, cs, rfl, hb, fun j u hu => ?_⟩
    rw [Nat.zero_add]
    rw [← ht, List.getElem?_take] at hu
    split at hu
    · simpa using hu
    · cases hu
theorem add_plain (g off j : Nat) : (⟨g, off, none⟩ : Addr).add j = ⟨g, off + j, none⟩ := by unfold Addr.add; split <;> simp_all
theorem Row.cells (h : Row w e A xs) (k : Touch NoS w w') : ∀ b, A = some b → ∀ j u, xs[j]? = some u → w'.cell? (b.add j) = some u := by
  intro b hb j u hu
  obtain ⟨g, off, hA, hc⟩ := (h.touch_no k).cell hu
  rw [hA] at hb
  injection hb with hb
  subst hb
  rwa [add_plain]
theorem own_out {base size n : Nat} {v : Value} (h : w.ownsRow base e size v n xs) (hn : 0 < n) : ∃ g c, v = .slice (some ⟨g, 0, none⟩) n c ∧ n ≤ c ∧ base ≤ g := by
  rcases h.2 with ⟨_, h0⟩ | ⟨g, cap, cs, hv, hb, _, hc, _⟩
  · omega
  · exact ⟨g, cap, hv, hc, hb⟩
end
/-- The one cell, or the few cells, that a new block holds. -/
theorem new_cells (w : World) (t : TypeId) (l : List Value) (g : Nat) (hg : g = w.heap.size) : ∀ j u, l[j]? = some u → (w.alloc (.cells l.toArray t)).cell? ((⟨g, 0, none⟩ : Addr).add j) = some u := by
  intro j u hu
  subst hg
  rw [add_plain, Nat.zero_add, (Blk.new w t l.toArray).cell]
  simpa using hu

/-- A slice that came in, or was made, reads as the cells xs: by its cells alone. -/
def Rd (w : World) (A : Option Addr) (xs : List Value) : Prop :=
  xs ≠ [] → ∃ g off, A = some ⟨g, off, none⟩ ∧ g < w.heap.size ∧ ∀ j u, xs[j]? = some u → w.cell? ⟨g, off + j, none⟩ = some u
theorem Rd.touch_no {w w' : World} {A : Option Addr} {xs : List Value} (h : Rd w A xs) (k : Touch NoS w w') : Rd w' A xs := fun hx => by
  obtain ⟨g, off, hA, hg, hc⟩ := h hx
  exact ⟨g, off, hA, Nat.lt_of_lt_of_le hg k.size, fun j u hu => (World.cell?_of_block (k.block g hg (fun h => h))).trans (hc j u hu)⟩
theorem Row.rd {w : World} {e : TypeId} {A : Option Addr} {xs : List Value} (h : Row w e A xs) : Rd w A xs := fun hx => by
  obtain ⟨g, off, cs, hA, hb, hc⟩ := h hx
  exact ⟨g, off, hA, hb.lt, fun j u hu => (hb.cell _).trans (hc j u hu)⟩

/-- append onto a row of the call's own: where the new row lies is told, too. -/
theorem wp_app {P : Program} (w : World) {o : Oper} {a : Act} {K : Act → World → Prop} {Q : Exit → Act → World → Prop} (s x : Operand) (t : TypeId)
    (ho : o.op = .call { callee := .builtin .append, args := #[s, x], argTypes := #[t, t] })
    (base : Nat) (e : TypeId) (i : TypeInfo) (z : Value) (size bytes : Nat) (ht : P.underlying t = some (.slice e)) (hi : P.info? e = some i) (hz : i.zero = some z)
    (hsize : i.size = size) (hby : i.bytes = bytes) (hzs : z.cells.size = size) (hsz : 0 < size)
    (v : Value) (n : Nat) (xs : List Value) (hs : a.eval s = v) (hown : w.ownsRow base e size v n xs)
    (ad : Addr) (m c : Nat) (news : List Value) (hx : a.eval x = .slice (some ad) m c) (hl : news.length = m * size) (hnews : ∀ j u, news[j]? = some u → w.cell? (ad.add j) = some u) (h1 : ∀ u ∈ news, u.oneCell' = true)
    (h63 : n + m ≤ maxLen) (hbytes : (n + m) * bytes ≤ 140737488355328) (hbase : base ≤ w.heap.size)
    (h : ∀ v' w', w'.ownsRow base e size v' (n + m) (xs ++ news) → w.grownBy w' v.ownBlock → (v'.ownBlock = v.ownBlock ∨ v'.ownBlock = some w.heap.size) → K (a.put o.dst v') w') : o.wp P a w K Q := by
  obtain ⟨v', w', hrun, h2, h3, _, h5⟩ := run_append_own_at (P := P) w base t o.type e i z size bytes ht hi hz hsize hby hzs hsz v n xs hown ad m c news hl hnews h1 h63 hbytes hbase
  unfold Oper.wp execOp
  simp only [ho, resolve, invoke, builtin, Sem.run_bind, Sem.run_pure, Result.andThen_ok, List.map_toArray, List.map_cons, List.map_nil, hs, hx, hrun]
  exact h v' w' h2 h3 h5
theorem wpList_app {P : Program} (w : World) {ops : Array Oper} {rest : List Oper} {o : Oper} {a : Act} {Q : Exit → Act → World → Prop} (hgd : o.guard = none) (s x : Operand) (t : TypeId)
    (ho : o.op = .call { callee := .builtin .append, args := #[s, x], argTypes := #[t, t] })
    (base : Nat) (e : TypeId) (i : TypeInfo) (z : Value) (size bytes : Nat) (ht : P.underlying t = some (.slice e)) (hi : P.info? e = some i) (hz : i.zero = some z)
    (hsize : i.size = size) (hby : i.bytes = bytes) (hzs : z.cells.size = size) (hsz : 0 < size)
    (v : Value) (n : Nat) (xs : List Value) (hs : a.eval s = v) (hown : w.ownsRow base e size v n xs)
    (ad : Addr) (m c : Nat) (news : List Value) (hx : a.eval x = .slice (some ad) m c) (hl : news.length = m * size) (hnews : ∀ j u, news[j]? = some u → w.cell? (ad.add j) = some u) (h1 : ∀ u ∈ news, u.oneCell' = true)
    (h63 : n + m ≤ maxLen) (hbytes : (n + m) * bytes ≤ 140737488355328) (hbase : base ≤ w.heap.size)
    (h : ∀ v' w', w'.ownsRow base e size v' (n + m) (xs ++ news) → w.grownBy w' v.ownBlock → (v'.ownBlock = v.ownBlock ∨ v'.ownBlock = some w.heap.size) → wpList P ops Q rest (a.put o.dst v') w') : wpList P ops Q (o :: rest) a w :=
  wpList_plain hgd fun _ hK => wp_app w s x t ho base e i z size bytes ht hi hz hsize hby hzs hsz v n xs hs hown ad m c news hx hl hnews h1 h63 hbytes hbase fun v' w' h2 h3 h4 => hK _ _ (h v' w' h2 h3 h4)
end Go.Proofs.YtlnabpoohnphiaaGreat
/- Arguments of a law, opened to plain data: ints, bools, strings, structs, slices of these, by one decoder a type. -/
namespace Go.Proofs.YtlnabpoohnphiaaGreat
open Go.ChangeShapes Go.WideShapes Go.ChangeAt Go.RowKit Go.Deep
set_option linter.unusedSimpArgs false
set_option linter.unusedVariables false
set_option linter.unusedVariables false

theorem own : ownKnob Tryz.prog.godebug = none := by kernel_rfl
theorem laidOut : laidOutB Tryz.prog = true := by kernel_rfl

/-- Cells of type t that read as data are the cells of a plain value x that is good. -/
def Dec {α : Type} (t : TypeId) (cells : α → List Value) (good : α → Prop) : Prop :=
  ∀ (H : Type) (enc : TypeId × Value → H) (w : World) (base : Nat) (spare : Nat → Bool) (held : Bool) (fuel : Nat) (cs : List Value) (y : DataW H × List MemPlace),
    DataW.trod enc Tryz.prog w base spare held fuel t cs = some y → ∃ x : α, cs = cells x ∧ good x

theorem dec_int {t : TypeId} {k : IntKind} (ht : Tryz.prog.underlying t = some (.int k)) : Dec t (fun x : Int => [.int k x]) (fun x => (Lit.int k x).wf = true) := by
  intro H enc w base spare held fuel cs y h
  obtain ⟨n, rfl, _, hw⟩ := DataW.trod_int ht h
  exact ⟨n, rfl, hw⟩
theorem dec_bool {t : TypeId} (ht : Tryz.prog.underlying t = some .bool) : Dec t (fun x : Bool => [.bool x]) (fun _ => True) := by
  intro H enc w base spare held fuel cs y h
  obtain ⟨n, rfl, _⟩ := DataW.trod_bool ht h
  exact ⟨n, rfl, trivial⟩
theorem dec_string {t : TypeId} (ht : Tryz.prog.underlying t = some .string) : Dec t (fun x : ByteArray => [.string x]) (fun x => x.size ≤ maxLen) := by
  intro H enc w base spare held fuel cs y h
  obtain ⟨n, rfl, _, hw⟩ := DataW.trod_string ht h
  exact ⟨n, rfl, hw⟩
/-- A struct of two fields whose decoders are known, of s0 and s1 cells; and so on. -/
theorem dec_pair {α β : Type} {t : TypeId} {f0 f1 : Field} {c0 : α → List Value} {c1 : β → List Value} {g0 : α → Prop} {g1 : β → Prop} (s0 s1 : Nat)
    (ht : Tryz.prog.underlying t = some (.struct #[f0, f1])) (o0 : f0.offset = 0) (o1 : f1.offset = s0) (k0 : Tryz.prog.cellsOf f0.type = s0) (k1 : Tryz.prog.cellsOf f1.type = s1) (hC : Tryz.prog.cellsOf t = s0 + s1)
    (h0 : Dec f0.type c0 g0) (h1 : Dec f1.type c1 g1) : Dec t (fun x : α × β => c0 x.1 ++ c1 x.2) (fun x => g0 x.1 ∧ g1 x.2) := by
  intro H enc w base spare held fuel cs y h
  obtain ⟨xs, n, _, _, hlen, hx, hf⟩ := DataW.trod_struct ht h
  have e0 := hf 0 f0 rfl
  have e1 := hf 1 f1 rfl
  have q0 : ∃ y0, xs[0]? = some y0 := ⟨_, List.getElem?_eq_getElem (by rw [hx]; simp)⟩
  have q1 : ∃ y1, xs[1]? = some y1 := ⟨_, List.getElem?_eq_getElem (by rw [hx]; simp)⟩
  obtain ⟨y0, q0⟩ := q0
  obtain ⟨y1, q1⟩ := q1
  rw [q0] at e0
  rw [q1] at e1
  obtain ⟨x0, a0, b0⟩ := h0 _ _ _ _ _ _ _ _ _ e0
  obtain ⟨x1, a1, b1⟩ := h1 _ _ _ _ _ _ _ _ _ e1
  rw [o0, k0, List.drop_zero] at a0
  rw [o1, k1, List.take_of_length_le (by rw [List.length_drop]; omega)] at a1
  refine ⟨(x0, x1), ?_, b0, b1⟩
  show cs = c0 x0 ++ c1 x1
  rw [← a0, ← a1, List.take_append_drop]
theorem dec_trip {α β γ : Type} {t : TypeId} {f0 f1 f2 : Field} {c0 : α → List Value} {c1 : β → List Value} {c2 : γ → List Value} {g0 : α → Prop} {g1 : β → Prop} {g2 : γ → Prop} (s0 s1 s2 : Nat)
    (ht : Tryz.prog.underlying t = some (.struct #[f0, f1, f2])) (o0 : f0.offset = 0) (o1 : f1.offset = s0) (o2 : f2.offset = s0 + s1) (k0 : Tryz.prog.cellsOf f0.type = s0) (k1 : Tryz.prog.cellsOf f1.type = s1) (k2 : Tryz.prog.cellsOf f2.type = s2)
    (hC : Tryz.prog.cellsOf t = s0 + s1 + s2) (h0 : Dec f0.type c0 g0) (h1 : Dec f1.type c1 g1) (h2 : Dec f2.type c2 g2) : Dec t (fun x : α × β × γ => c0 x.1 ++ (c1 x.2.1 ++ c2 x.2.2)) (fun x => g0 x.1 ∧ g1 x.2.1 ∧ g2 x.2.2) := by
  intro H enc w base spare held fuel cs y h
  obtain ⟨xs, n, _, _, hlen, hx, hf⟩ := DataW.trod_struct ht h
  have e0 := hf 0 f0 rfl
  have e1 := hf 1 f1 rfl
  have e2 := hf 2 f2 rfl
  obtain ⟨y0, q0⟩ : ∃ y0, xs[0]? = some y0 := ⟨_, List.getElem?_eq_getElem (by rw [hx]; simp)⟩
  obtain ⟨y1, q1⟩ : ∃ y1, xs[1]? = some y1 := ⟨_, List.getElem?_eq_getElem (by rw [hx]; simp)⟩
  obtain ⟨y2, q2⟩ : ∃ y2, xs[2]? = some y2 := ⟨_, List.getElem?_eq_getElem (by rw [hx]; simp)⟩
  rw [q0] at e0
  rw [q1] at e1
  rw [q2] at e2
  obtain ⟨x0, a0, b0⟩ := h0 _ _ _ _ _ _ _ _ _ e0
  obtain ⟨x1, a1, b1⟩ := h1 _ _ _ _ _ _ _ _ _ e1
  obtain ⟨x2, a2, b2⟩ := h2 _ _ _ _ _ _ _ _ _ e2
  rw [o0, k0, List.drop_zero] at a0
  rw [o1, k1] at a1
  rw [o2, k2, List.take_of_length_le (by rw [List.length_drop]; omega)] at a2
  refine ⟨(x0, x1, x2), ?_, b0, b1, b2⟩
  have hd : cs.drop (s0 + s1) = (cs.drop s0).drop s1 := by rw [List.drop_drop]
  show cs = c0 x0 ++ (c1 x1 ++ c2 x2)
  rw [← a0, ← a1, ← a2, hd, List.take_append_drop, List.take_append_drop]
theorem Dec.iso {α β : Type} {t : TypeId} {c : α → List Value} {g : α → Prop} {c' : β → List Value} {g' : β → Prop} (h : Dec t c g) (f : α → β) (hc : ∀ x, c x = c' (f x)) (hg : ∀ x, g x → g' (f x)) : Dec t c' g' := by
  intro H enc w base spare held fuel cs y hy
  obtain ⟨x, hx, hgx⟩ := h _ _ _ _ _ _ _ _ _ hy
  exact ⟨f x, by rw [hx, hc], hg x hgx⟩

theorem flatMap_at {α : Type} (cells : α → List Value) (s : Nat) (hs : ∀ x, (cells x).length = s) (f : Nat → α) (n : Nat) : ∀ (j : Nat) (u : Value), (((List.range n).map f).flatMap cells)[j]? = some u → ∃ i k, i < n ∧ k < s ∧ j = i * s + k ∧ (cells (f i))[k]? = some u := by
  induction n with
  | zero => intro j u h; simp at h
  | succ n ih =>
    intro j u h
    rw [List.range_succ, List.map_append, List.flatMap_append] at h
    have hl : (((List.range n).map f).flatMap cells).length = n * s := by
      clear h ih
      induction n with
      | zero => simp
      | succ n ih => rw [List.range_succ, List.map_append, List.flatMap_append, List.length_append, ih]; simp [hs, Nat.succ_mul]
    by_cases hj : j < n * s
    · rw [List.getElem?_append_left (by omega)] at h
      obtain ⟨i, k, hi, r⟩ := ih j u h
      exact ⟨i, k, by omega, r⟩
    · rw [List.getElem?_append_right (by omega), hl] at h
      simp only [List.map_cons, List.map_nil, List.flatMap_cons, List.flatMap_nil, List.append_nil] at h
      have hk := (List.getElem?_eq_some_iff.1 h).1
      rw [hs] at hk
      exact ⟨n, j - n * s, by omega, hk, by omega, h⟩

/-- A slice that came in, of elements that a decoder reads. -/
theorem open_rd {α : Type} [Inhabited α] {t e : TypeId} {cells : α → List Value} {good : α → Prop} (s : Nat) (hs : ∀ x, (cells x).length = s) (h0 : 0 < s) (ht : Tryz.prog.underlying t = some (.slice e)) (hC : Tryz.prog.cellsOf e = s) (hd : Dec e cells good)
    {H : Type} {enc : TypeId × Value → H} {w : World} {base : Nat} {spare : Nat → Bool} {held : Bool} {A : Option Addr} {len cap : Nat} {d : DataW H} {p : List MemPlace}
    (h : DataW.Trod enc Tryz.prog w base spare held t (.slice A len cap) d p) : ∃ l : List α, l.length = len ∧ Rd w A (l.flatMap cells) ∧ (∀ x ∈ l, good x) ∧ len ≤ cap ∧ cap ≤ maxLen := by
  obtain ⟨fuel, hf⟩ := h
  rcases open_slice ht hf with ⟨hcs, _⟩ | ⟨a, len', cap', m, n, D, Pl, hcs, hb, hl, hm, hmm, _, hi⟩
  · simp [Value.cells] at hcs
    obtain ⟨rfl, rfl, rfl⟩ := hcs
    exact ⟨[], rfl, fun h => absurd rfl h, by simp, Nat.le_refl _, by simp [maxLen]⟩
  · simp [Value.cells] at hcs
    obtain ⟨rfl, rfl, rfl⟩ := hcs
    have hlm : len ≤ m := by rw [hmm]; split <;> omega
    have hex : ∀ i, i < len → ∃ x : α, good x ∧ ∀ k, k < s → w.cell? ((a.add (i * s)).add k) = (cells x)[k]? := by
      intro i hil
      obtain ⟨cs', hc, ht'⟩ := hi i (by omega)
      rw [hC] at hc
      obtain ⟨x, rfl, hg⟩ := hd _ _ _ _ _ _ _ _ _ ht'
      obtain ⟨_, _, hat⟩ := World.cells?_some hc
      exact ⟨x, hg, hat⟩
    obtain ⟨f, hfx⟩ := choose_lt hex
    refine ⟨(List.range len).map f, by simp, fun hne => ?_, ?_, hl, hm⟩
    · have hpos : 0 < len := by
        rcases Nat.eq_zero_or_pos len with h | h
        · subst h; simp at hne
        · exact h
      obtain ⟨b, off, spot⟩ := a
      have hc0 := (hfx 0 hpos).2 0 h0
      have hcell : ∃ v, (cells (f 0))[0]? = some v := ⟨_, List.getElem?_eq_getElem (by rw [hs]; exact h0)⟩
      obtain ⟨v, hv⟩ := hcell
      rw [hv] at hc0
      have hspot : spot = none := by simpa [Addr.add] using World.cell?_spot hc0
      subst hspot
      refine ⟨b, off, rfl, by simpa [Addr.add] using World.block_lt_of_cell? w _ hc0, fun j u hu => ?_⟩
      obtain ⟨i, k, hil, hk, rfl, hcu⟩ := flatMap_at cells s hs f len j u hu
      have := (hfx i hil).2 k hk
      rw [add_plain, add_plain, hcu, Nat.add_assoc] at this
      exact this
    · intro x hx
      simp at hx
      obtain ⟨i, hil, rfl⟩ := hx
      exact (hfx i hil).1

/-- A struct (an array) by value. -/
theorem open_val {α : Type} {t : TypeId} {cells : α → List Value} {good : α → Prop} (hd : Dec t cells good) {H : Type} {enc : TypeId × Value → H} {w : World} {base : Nat} {spare : Nat → Bool} {held : Bool} {cs : Array Value} {d : DataW H} {p : List MemPlace}
    (h : DataW.Trod enc Tryz.prog w base spare held t (.agg cs) d p) : ∃ x : α, cs = (cells x).toArray ∧ good x := by
  obtain ⟨fuel, hf⟩ := h
  obtain ⟨x, hx, hg⟩ := hd _ _ _ _ _ _ _ _ _ hf
  refine ⟨x, ?_, hg⟩
  have : cs.toList = cells x := hx
  rw [← this]
theorem trod_lt {H : Type} {enc : TypeId × Value → H} {w : World} {spare : Nat → Bool} {held : Bool} {t : TypeId} {v : Value} {d : DataW H} {p : List MemPlace} (h : DataW.Trod enc Tryz.prog w 0 spare held t v d p) : ∀ x ∈ p, x.block < w.heap.size := by
  obtain ⟨m, hm⟩ := h
  exact DataW.trod_lt m _ _ _ hm
theorem open_num {t e : TypeId} {k : IntKind} (ht : Tryz.prog.underlying t = some (.slice e)) (he : Tryz.prog.underlying e = some (.int k)) (hC : Tryz.prog.cellsOf e = 1) {H : Type} {enc : TypeId × Value → H} {w : World} {base : Nat} {spare : Nat → Bool} {held : Bool} {A : Option Addr} {len cap : Nat} {d : DataW H} {p : List MemPlace}
    (h : DataW.Trod enc Tryz.prog w base spare held t (.slice A len cap) d p) : ∃ l : List Int, l.length = len ∧ Rd w A (l.flatMap fun x => [.int k x]) ∧ (∀ x ∈ l, (Lit.int k x).wf = true) ∧ len ≤ cap ∧ cap ≤ maxLen :=
  open_rd 1 (fun _ => rfl) (by omega) ht hC (dec_int he) h
theorem open_str {t e : TypeId} (ht : Tryz.prog.underlying t = some (.slice e)) (he : Tryz.prog.underlying e = some .string) (hC : Tryz.prog.cellsOf e = 1) {H : Type} {enc : TypeId × Value → H} {w : World} {base : Nat} {spare : Nat → Bool} {held : Bool} {A : Option Addr} {len cap : Nat} {d : DataW H} {p : List MemPlace}
    (h : DataW.Trod enc Tryz.prog w base spare held t (.slice A len cap) d p) : ∃ l : List ByteArray, l.length = len ∧ Rd w A (l.flatMap fun x => [.string x]) ∧ (∀ x ∈ l, x.size ≤ maxLen) ∧ len ≤ cap ∧ cap ≤ maxLen :=
  open_rd 1 (fun _ => rfl) (by omega) ht hC (dec_string he) h
end Go.Proofs.YtlnabpoohnphiaaGreat
/- What the rows ask of the program as a whole, once. -/
namespace Go.Proofs.YtlnabpoohnphiaaGreat
set_option linter.unusedSimpArgs false
set_option linter.unusedVariables false
def row0 : OpenClaim := { program := "", sum := "", func := "", spec := "" }
set_option maxRecDepth 100000 in
theorem seat_facts : (Tryz.prog.stopsHeard && Tryz.prog.mayEnter && (row0.lifted == Tryz.prog.liftsFinal) && (Tryz.prog.make == some row0.make)) = true := by kernel_rfl
set_option maxRecDepth 100000 in
theorem seat_fact5 : (laidOutB Tryz.prog && mapsRowed Tryz.prog) = true := by kernel_rfl
set_option maxRecDepth 100000 in
theorem seat_fact6 : (row0.plainKeys == Tryz.prog.plainKeys) = true := by kernel_rfl
set_option maxRecDepth 100000 in
theorem joined_mk (f : FuncId) (fn : Func) (s : ChangeSpec) (c : OpenClaim)
    (h1 : (c.wf (OpenSpec.ofChange s)) = true) (h2 : (fn.params.all (Tryz.prog.readableRec ·) && namedTie Tryz.prog c.named s.vars && (c.stops == []) && (Tryz.prog.stops == []) && (c.knobs == []) && (Tryz.prog.stopKnobs == [])) = true)
    (h3 : (c.inPlace == Tryz.prog.inPlace f) = true) (h4 : (c.unfollowed == Tryz.prog.unfollowed f) = true) (h5 : (c.recurses == Tryz.prog.recurses f) = true) (h6 : (c.named == Tryz.prog.varsNamed f) = true)
    (h7 : ((c.maps == (fn.params.toList ++ s.plain.varTypes Tryz.prog).any (Tryz.prog.mapsRec ·)) && (c.ifaces == (fn.params.toList ++ s.plain.varTypes Tryz.prog).any (Tryz.prog.ifacesRec ·)) && (c.mapsOut == Tryz.prog.mapsAmong fn.resultTypes.toList) &&
      (c.loops == (fn.params.toList ++ s.plain.varTypes Tryz.prog).any (Tryz.prog.loopsFrom ·)) && (c.wideKeys == (fn.params.toList ++ s.plain.varTypes Tryz.prog ++ fn.resultTypes.toList).any (Tryz.prog.wideKeysFrom ·)) &&
      s.vars.all (Tryz.prog.varReadable ·) && fn.resultTypes.all (fun t => Tryz.prog.readableRec t && decide (t < Tryz.prog.types.size)) && (c.ifacesOut == fn.resultTypes.toList.any (Tryz.prog.ifacesRec ·)) && (c.loopsOut == fn.resultTypes.toList.any (Tryz.prog.loopsFrom ·))) = true)
    (h8 : c.plainKeys = row0.plainKeys) (h9 : c.shortTexts.isNone = true) (h10 : c.lifted = row0.lifted) (h11 : c.make = row0.make)
    (h12 : ((c.kinds == (if c.domain.isEmpty then [] else fn.params.toList.map fun t => match Tryz.prog.underlying t with | some (.int k) => some k | _ => none)) && (c.pinned == c.pinnedBy) &&
      (c.veiled == (fn.params.toList ++ s.plain.varTypes Tryz.prog ++ fn.resultTypes.toList).any (Tryz.prog.veiledRec ·)) && c.veiledFits Tryz.prog fn.params.toList (fn.params.toList ++ s.plain.varTypes Tryz.prog ++ fn.resultTypes.toList)) = true) :
    joinedFacts Tryz.prog f fn s c = true := by
  have sf := seat_facts
  rw [Bool.and_eq_true, Bool.and_eq_true, Bool.and_eq_true] at sf
  obtain ⟨⟨⟨s1, s2⟩, s3⟩, s4⟩ := sf
  have s5 := seat_fact5
  have s6 := seat_fact6
  rw [← h8] at s6
  rw [← h10] at s3
  rw [← h11] at s4
  unfold joinedFacts
  simp only [Bool.and_eq_true] at *
  obtain ⟨t1, t2⟩ := s5
  obtain ⟨⟨⟨⟨⟨a1, a2⟩, a3⟩, a4⟩, a5⟩, a6⟩ := h2
  obtain ⟨⟨⟨⟨⟨⟨⟨⟨b1, b2⟩, b3⟩, b4⟩, b5⟩, b6⟩, b7⟩, b8⟩, b9⟩ := h7
  obtain ⟨⟨⟨d1, d2⟩, d3⟩, d4⟩ := h12
  refine ⟨⟨⟨⟨⟨⟨⟨⟨⟨⟨⟨⟨⟨⟨⟨⟨⟨⟨⟨⟨⟨⟨⟨⟨⟨⟨⟨⟨⟨⟨⟨h1, t1⟩, t2⟩, a1⟩, a2⟩, a3⟩, a4⟩, a5⟩, a6⟩, h3⟩, h4⟩, h5⟩, h6⟩, b1⟩, b2⟩, b3⟩, b4⟩, b5⟩, b6⟩, b7⟩, b8⟩, b9⟩, s6⟩, h9⟩, s1⟩, s2⟩, s3⟩, s4⟩, d1⟩, d2⟩, d3⟩, d4⟩
end Go.Proofs.YtlnabpoohnphiaaGreat
/- Bytes: rows of bytes, a string's bytes, conversions between them. -/
namespace Go.Proofs.YtlnabpoohnphiaaGreat
open Go.RowKit
set_option linter.unusedSimpArgs false
set_option linter.unusedVariables false

theorem Rd.touch {S : Nat → Prop} {w w' : World} {A : Option Addr} {xs : List Value} (h : Rd w A xs) (k : Touch S w w') (hn : ∀ a, A = some a → ¬ S a.block) : Rd w' A xs := fun hx => by
  obtain ⟨g, off, hA, hg, hc⟩ := h hx
  exact ⟨g, off, hA, Nat.lt_of_lt_of_le hg k.size, fun j u hu => (World.cell?_of_block (k.block g hg (hn _ hA))).trans (hc j u hu)⟩
/-- Bytes as cells. -/
def u8s (l : List Int) : List Value := l.map (Value.int .u8)
def bytesIn (l : List Int) : Prop := ∀ x ∈ l, 0 ≤ x ∧ x ≤ 255
theorem u8s_at {w : World} {A : Option Addr} {l : List Int} (h : Rd w A (u8s l)) (k : Nat) (hk : k < l.length) : ∃ g off, A = some ⟨g, off, none⟩ ∧ g < w.heap.size ∧ w.cell? ⟨g, off + k, none⟩ = some (.int .u8 l[k]) := by
  obtain ⟨g, off, hA, hg, hc⟩ := h (by intro he; simp [u8s] at he; rw [he] at hk; simp at hk)
  exact ⟨g, off, hA, hg, hc k _ (by simp [u8s, hk])⟩
theorem Rd.new (w : World) (l : List Value) (t : TypeId) (fr : Nat × Nat) : Rd (w.alloc (.cells l.toArray t fr)) (some ⟨w.heap.size, 0, none⟩) l := fun _ =>
  ⟨w.heap.size, 0, rfl, by simp, fun j u hu => by
    rw [Nat.zero_add]
    unfold World.cell?
    rw [heap_alloc_new]
    simpa using hu⟩
def sb (s : ByteArray) : List Int := s.data.toList.map fun b => (b.toNat : Int)
theorem sb_length (s : ByteArray) : (sb s).length = s.size := by simp [sb]
theorem sb_in (s : ByteArray) : bytesIn (sb s) := by
  intro x hx
  simp [sb] at hx
  obtain ⟨b, _, rfl⟩ := hx
  have := b.toNat_lt
  omega
theorem sb_append (s t : ByteArray) : sb (s ++ t) = sb s ++ sb t := by simp [sb]
theorem sb_extract (s : ByteArray) (i j : Nat) : sb (s.extract i j) = ((sb s).take j).drop i := by
  simp [sb, ByteArray.data_extract, Array.toList_extract, List.extract_eq_take_drop, List.map_take, List.map_drop, List.drop_take]
theorem bytesIn.take {l : List Int} (h : bytesIn l) (k : Nat) : bytesIn (l.take k) := fun x hx => h x (List.mem_of_mem_take hx)
theorem bytesIn.drop {l : List Int} (h : bytesIn l) (k : Nat) : bytesIn (l.drop k) := fun x hx => h x (List.mem_of_mem_drop hx)
/-- '[]byte(s)'. -/
theorem conv_rd (w : World) (e : TypeId) (s : ByteArray) : Rd (Lib.bytesWorld w e s) (some ⟨w.heap.size, 0, none⟩) (u8s (sb s)) := fun _ =>
  ⟨w.heap.size, 0, rfl, by rw [Lib.bytesWorld_size]; omega, fun j u hu => by
    have hj : j < s.size := by have := (List.getElem?_eq_some_iff.1 hu).1; simpa [u8s, sb_length] using this
    rw [Nat.zero_add, Lib.bytesWorld_cell w e s j hj]
    simp [u8s, sb] at hu
    obtain ⟨b, hb, rfl⟩ := hu
    simp [List.getD, hb]⟩
theorem conv_touch (w : World) (e : TypeId) (s : ByteArray) : Touch NoS w (Lib.bytesWorld w e s) :=
  ⟨rfl, rfl, rfl, by rw [Lib.bytesWorld_size]; omega, fun k hk _ => Lib.bytesWorld_at_old w e s k hk⟩
def glue (l : List ByteArray) : ByteArray := ⟨(l.flatMap fun s => s.data.toList).toArray⟩
theorem glue_add (l : List ByteArray) (k : Nat) (hk : k < l.length) : glue (l.take k) ++ l[k] = glue (l.take (k + 1)) := by
  apply ByteArray.ext
  apply Array.toList_inj.1
  rw [show l.take (k + 1) = l.take k ++ [l[k]] from by rw [List.take_add_one, List.getElem?_eq_getElem hk]; rfl]
  generalize l.take k = q
  simp [glue]
theorem glue_nil : glue [] = ⟨#[]⟩ := rfl
theorem str_at {w : World} {A : Option Addr} {l : List ByteArray} (h : Rd w A (l.flatMap fun x => [.string x])) (k : Nat) (hk : k < l.length) : ∃ g off, A = some ⟨g, off, none⟩ ∧ g < w.heap.size ∧ w.cell? ⟨g, off + k, none⟩ = some (.string l[k]) := by
  have hf : ∀ l : List ByteArray, (l.flatMap fun x => [Value.string x]) = l.map Value.string := fun l => by induction l <;> simp_all
  rw [hf] at h
  obtain ⟨g, off, rfl, hg, hc⟩ := h (by intro h0; simp at h0; rw [h0] at hk; exact absurd hk (by simp))
  exact ⟨g, off, rfl, hg, hc k _ (by simp [hk])⟩
theorem conv_one (w : World) (b : Int) (t : TypeId) (fr : Nat × Nat) (cap : Nat) :
    (convert 43 9 (.slice (some ⟨w.heap.size, 0, none⟩) 1 cap)).run Tryz.prog (w.alloc (.cells #[.int .u8 b] t fr)) = .ok (.string (Go.strOfNums [b])) (w.alloc (.cells #[.int .u8 b] t fr)) :=
  Go.run_convert_bytes_arg (P := Tryz.prog) _ 43 5 Tryz.underlying43 Tryz.underlying5 w.heap.size 0 1 cap [b] rfl (fun i hi => by
    have : i = 0 := by omega
    subst this
    unfold World.cell?
    rw [heap_alloc_new]
    rfl) 9 Tryz.underlying9
theorem sb_one (b : Int) (h0 : 0 ≤ b) (h1 : b ≤ 255) : sb (Go.strOfNums [b]) = [b] := by
  simp [sb, Go.strOfNums]
  omega
theorem u8_bounds {b : Int} (h : (Lit.int .u8 b).wf = true) : 0 ≤ b ∧ b ≤ 255 := by
  obtain ⟨h1, h2⟩ := (Lit.wf_int_iff .u8 b).1 h
  rw [show IntKind.u8.min = 0 from rfl] at h1
  rw [show IntKind.u8.max = 255 from rfl] at h2
  exact ⟨h1, h2⟩
theorem conv_lit (w : World) (xs : List Int) (cs : Array Value) (t : TypeId) (fr : Nat × Nat) (n cap : Nat) (hn : xs.length = n) (hc : ∀ i, i < n → cs[i]? = some (.int .u8 (xs.getD i 0))) :
    (convert 43 9 (.slice (some ⟨w.heap.size, 0, none⟩) n cap)).run Tryz.prog (w.alloc (.cells cs t fr)) = .ok (.string (Go.strOfNums xs)) (w.alloc (.cells cs t fr)) :=
  Go.run_convert_bytes_arg (P := Tryz.prog) _ 43 5 Tryz.underlying43 Tryz.underlying5 w.heap.size 0 n cap xs hn (fun i hi => by
    unfold World.cell?
    rw [heap_alloc_new, Nat.zero_add]
    exact hc i hi) 9 Tryz.underlying9
theorem conv_two (w : World) (a b : Int) (t : TypeId) (fr : Nat × Nat) (cap : Nat) :
    (convert 43 9 (.slice (some ⟨w.heap.size, 0, none⟩) 2 cap)).run Tryz.prog (w.alloc (.cells #[.int .u8 a, .int .u8 b] t fr)) = .ok (.string (Go.strOfNums [a, b])) (w.alloc (.cells #[.int .u8 a, .int .u8 b] t fr)) :=
  conv_lit w [a, b] _ t fr 2 cap rfl (fun i hi => by rcases i with _ | _ | i <;> first | rfl | omega)
theorem conv_three (w : World) (a b c : Int) (t : TypeId) (fr : Nat × Nat) (cap : Nat) :
    (convert 43 9 (.slice (some ⟨w.heap.size, 0, none⟩) 3 cap)).run Tryz.prog (w.alloc (.cells #[.int .u8 a, .int .u8 b, .int .u8 c] t fr)) = .ok (.string (Go.strOfNums [a, b, c])) (w.alloc (.cells #[.int .u8 a, .int .u8 b, .int .u8 c] t fr)) :=
  conv_lit w [a, b, c] _ t fr 3 cap rfl (fun i hi => by rcases i with _ | _ | _ | i <;> first | rfl | omega)
theorem conv_four (w : World) (a b c d : Int) (t : TypeId) (fr : Nat × Nat) (cap : Nat) :
    (convert 43 9 (.slice (some ⟨w.heap.size, 0, none⟩) 4 cap)).run Tryz.prog (w.alloc (.cells #[.int .u8 a, .int .u8 b, .int .u8 c, .int .u8 d] t fr)) = .ok (.string (Go.strOfNums [a, b, c, d])) (w.alloc (.cells #[.int .u8 a, .int .u8 b, .int .u8 c, .int .u8 d] t fr)) :=
  conv_lit w [a, b, c, d] _ t fr 4 cap rfl (fun i hi => by rcases i with _ | _ | _ | _ | i <;> first | rfl | omega)
theorem str_eq (a b : ByteArray) : (a.toList == b.toList) = decide (a = b) := by
  by_cases h : a = b
  · subst h; simp
  · rw [decide_eq_false h, beq_eq_false_iff_ne]
    intro h2
    rw [ByteArray.toList_eq, ByteArray.toList_eq] at h2
    exact h (ByteArray.ext (Array.toList_inj.1 h2))
theorem sb_inj {s t : ByteArray} (h : sb s = sb t) : s = t := by
  apply ByteArray.ext
  apply Array.toList_inj.1
  have : ∀ (a b : List UInt8), (a.map fun x => (x.toNat : Int)) = (b.map fun x => (x.toNat : Int)) → a = b := by
    intro a
    induction a with
    | nil => intro b h; cases b <;> simp_all
    | cons x a ih =>
      intro b h
      cases b with
      | nil => simp at h
      | cons y b =>
        simp only [List.map_cons, List.cons.injEq] at h
        obtain ⟨h1, h2⟩ := h
        have h1 : x.toNat = y.toNat := by omega
        rw [UInt8.toNat_inj.1 h1, ih b h2]
  exact this _ _ h
theorem sb_nums (l : List Int) (h : bytesIn l) : sb (Go.strOfNums l) = l := by
  induction l with
  | nil => rfl
  | cons x l ih =>
    have hx := h x (by simp)
    have := ih (fun y hy => h y (by simp [hy]))
    simp only [sb, Go.strOfNums, List.map_cons, List.cons.injEq] at this ⊢
    refine ⟨?_, this⟩
    simp
    omega
theorem sb_get (s : ByteArray) (k : Nat) (hk : k < s.size) : (sb s)[k]? = some ((s[k].toNat : Nat) : Int) := by
  simp only [sb, List.getElem?_map]
  rw [show s.data.toList[k]? = some s[k] from by simp [hk]; rfl]
  rfl
theorem sb_getD (s : ByteArray) (k : Nat) (hk : k < s.size) : (sb s).getD k 0 = ((s[k].toNat : Nat) : Int) := by
  rw [List.getD_eq_getElem?_getD, sb_get s k hk]; simp
theorem i64_at {w : World} {A : Option Addr} {l : List Int} (h : Rd w A (l.flatMap fun x => [.int .i64 x])) (k : Nat) (hk : k < l.length) : ∃ g off, A = some ⟨g, off, none⟩ ∧ g < w.heap.size ∧ w.cell? ⟨g, off + k, none⟩ = some (.int .i64 l[k]) := by
  have hf : ∀ l : List Int, (l.flatMap fun x => [Value.int .i64 x]) = l.map (Value.int .i64) := fun l => by induction l <;> simp_all
  rw [hf] at h
  obtain ⟨g, off, rfl, hg, hc⟩ := h (by intro h0; simp at h0; rw [h0] at hk; exact absurd hk (by simp))
  exact ⟨g, off, rfl, hg, hc k _ (by simp [hk])⟩
theorem int_beq_nat (a b : Nat) : ((a : Int) == (b : Int)) = decide (a = b) := by
  by_cases h : a = b
  · rw [decide_eq_true h, h]; simp
  · rw [decide_eq_false h, beq_eq_false_iff_ne]; omega
theorem str_ne (s : ByteArray) (hpos : 0 < s.size) : (s.toList == []) = false ∧ s.toList.isEmpty = false := by
  have hl : s.toList.length = s.size := by rw [ByteArray.toList_eq, Array.length_toList]; rfl
  rcases h : s.toList with _ | ⟨a, l⟩
  · rw [h] at hl; simp at hl; omega
  · exact ⟨by simp, rfl⟩
end Go.Proofs.YtlnabpoohnphiaaGreat
/- More words for memory: append from whatever slice. -/
namespace Go.Proofs.YtlnabpoohnphiaaGreat
open Go.RowKit
set_option linter.unusedSimpArgs false
set_option linter.unusedVariables false

/-- append onto a row of the call's own, from a row of the program's own making (or nothing). -/
theorem run_app_of_nil {P : Program} (w : World) (base : Nat) (t ty e : TypeId) (i : TypeInfo) (size : Nat) (ht : P.underlying t = some (.slice e)) (hi : P.info? e = some i)
    (v : Value) (n : Nat) (xs : List Value) (hown : w.ownsRow base e size v n xs) (c : Nat) : (Builtin.append_ #[t, t] ty #[v, .slice none 0 c]).run P w = .ok v w := by
  rcases hown.2 with ⟨rfl, rfl⟩ | ⟨g, cap, cur, rfl, _, _, hnc, _⟩
  · simp [Builtin.append_, run_underlying ht, sizeOf, typeInfo, hi, Builtin.lenOf, Builtin.firstCells]
  · simp [Builtin.append_, run_underlying ht, sizeOf, typeInfo, hi, Builtin.lenOf, Builtin.firstCells, hnc, storeCells]
theorem wp_app_row {P : Program} (w : World) {o : Oper} {a : Act} {K : Act → World → Prop} {Q : Exit → Act → World → Prop} (s x : Operand) (t : TypeId)
    (ho : o.op = .call { callee := .builtin .append, args := #[s, x], argTypes := #[t, t] })
    (base : Nat) (e : TypeId) (i : TypeInfo) (z : Value) (size bytes : Nat) (ht : P.underlying t = some (.slice e)) (hi : P.info? e = some i) (hz : i.zero = some z)
    (hsize : i.size = size) (hby : i.bytes = bytes) (hzs : z.cells.size = size) (hsz : 0 < size)
    (v : Value) (n : Nat) (xs : List Value) (hs : a.eval s = v) (hown : w.ownsRow base e size v n xs)
    (A : Option Addr) (m c : Nat) (news : List Value) (hx : a.eval x = .slice A m c) (hl : news.length = m * size) (hr : Rd w A news) (h1 : ∀ u ∈ news, u.oneCell' = true)
    (h63 : n + m ≤ maxLen) (hbytes : (n + m) * bytes ≤ 140737488355328) (hbase : base ≤ w.heap.size)
    (h : ∀ v' w', w'.ownsRow base e size v' (n + m) (xs ++ news) → w.grownBy w' v.ownBlock → (v'.ownBlock = v.ownBlock ∨ v'.ownBlock = some w.heap.size) → K (a.put o.dst v') w') : o.wp P a w K Q := by
  rcases A with _ | ad
  · have hn : news = [] := by
      rcases news with _ | ⟨u, l⟩
      · rfl
      · obtain ⟨g, off, hA, _⟩ := hr (by simp)
        cases hA
    subst hn
    have hm : m = 0 := by
      rcases Nat.eq_zero_or_pos m with h0 | h0
      · exact h0
      · have := Nat.mul_pos h0 hsz; simp at hl; omega
    subst hm
    have hrun := run_app_of_nil (P := P) w base t o.type e i size ht hi v n xs hown c
    unfold Oper.wp execOp
    simp only [ho, resolve, invoke, builtin, Sem.run_bind, Sem.run_pure, Result.andThen_ok, List.map_toArray, List.map_cons, List.map_nil, hs, hx, hrun]
    exact h v w (by simpa using hown) (World.grownBy.refl w _) (.inl rfl)
  · refine wp_app w s x t ho base e i z size bytes ht hi hz hsize hby hzs hsz v n xs hs hown ad m c news hx hl ?_ h1 h63 hbytes hbase h
    intro j u hu
    obtain ⟨g, off, hA, _, hc⟩ := hr (by rintro rfl; simp at hu)
    injection hA with hA
    subst hA
    rw [add_plain]
    exact hc j u hu
theorem wpList_app_row {P : Program} (w : World) {ops : Array Oper} {rest : List Oper} {o : Oper} {a : Act} {Q : Exit → Act → World → Prop} (hgd : o.guard = none) (s x : Operand) (t : TypeId)
    (ho : o.op = .call { callee := .builtin .append, args := #[s, x], argTypes := #[t, t] })
    (base : Nat) (e : TypeId) (i : TypeInfo) (z : Value) (size bytes : Nat) (ht : P.underlying t = some (.slice e)) (hi : P.info? e = some i) (hz : i.zero = some z)
    (hsize : i.size = size) (hby : i.bytes = bytes) (hzs : z.cells.size = size) (hsz : 0 < size)
    (v : Value) (n : Nat) (xs : List Value) (hs : a.eval s = v) (hown : w.ownsRow base e size v n xs)
    (A : Option Addr) (m c : Nat) (news : List Value) (hx : a.eval x = .slice A m c) (hl : news.length = m * size) (hr : Rd w A news) (h1 : ∀ u ∈ news, u.oneCell' = true)
    (h63 : n + m ≤ maxLen) (hbytes : (n + m) * bytes ≤ 140737488355328) (hbase : base ≤ w.heap.size)
    (h : ∀ v' w', w'.ownsRow base e size v' (n + m) (xs ++ news) → w.grownBy w' v.ownBlock → (v'.ownBlock = v.ownBlock ∨ v'.ownBlock = some w.heap.size) → wpList P ops Q rest (a.put o.dst v') w') : wpList P ops Q (o :: rest) a w :=
  wpList_plain hgd fun _ hK => wp_app_row w s x t ho base e i z size bytes ht hi hz hsize hby hzs hsz v n xs hs hown A m c news hx hl hr h1 h63 hbytes hbase fun v' w' h2 h3 h4 => hK _ _ (h v' w' h2 h3 h4)
theorem step_app_row {P : Program} (w : World) {ops : Array Oper} {o : Oper} {a : Act} {K : Act → World → Prop} {Q : Exit → Act → World → Prop} {E : Prop} (hgd : o.guard = none) (s x : Operand) (t : TypeId)
    (ho : o.op = .call { callee := .builtin .append, args := #[s, x], argTypes := #[t, t] })
    (base : Nat) (e : TypeId) (i : TypeInfo) (z : Value) (size bytes : Nat) (ht : P.underlying t = some (.slice e)) (hi : P.info? e = some i) (hz : i.zero = some z)
    (hsize : i.size = size) (hby : i.bytes = bytes) (hzs : z.cells.size = size) (hsz : 0 < size)
    (v : Value) (n : Nat) (xs : List Value) (hs : a.eval s = v) (hown : w.ownsRow base e size v n xs)
    (A : Option Addr) (m c : Nat) (news : List Value) (hx : a.eval x = .slice A m c) (hl : news.length = m * size) (hr : Rd w A news) (h1 : ∀ u ∈ news, u.oneCell' = true)
    (h63 : n + m ≤ maxLen) (hbytes : (n + m) * bytes ≤ 140737488355328) (hbase : base ≤ w.heap.size)
    (h : ∀ v' w', w'.ownsRow base e size v' (n + m) (xs ++ news) → w.grownBy w' v.ownBlock → (v'.ownBlock = v.ownBlock ∨ v'.ownBlock = some w.heap.size) → K (a.put o.dst v') w') :
    if Region.wanted o (yielded ops a.tmps) = true then Oper.wp P o a w K Q else E := by
  have hw : Region.wanted o (yielded ops a.tmps) = true := by simp [Region.wanted, hgd]
  rw [if_pos hw]
  exact wp_app_row w s x t ho base e i z size bytes ht hi hz hsize hby hzs hsz v n xs hs hown A m c news hx hl hr h1 h63 hbytes hbase h

end Go.Proofs.YtlnabpoohnphiaaGreat
