/- Words for memory, used by the walks of this seat: what a call may have touched (Touch), a slice that reads as a list of cells (Row, Rd), blocks that are known whole (Blk). -/
import Derived.WalkKit
import Derived.Deep.Draws
import Derived.Lib.Hide
import Derived.Maps.AppendAt
import Derived.Deep.AppendLies
import Derived.RegionTactic
import Derived.OwnWalk
/- Words for memory, used by the walks of this seat: what a call may have touched (Touch), a slice that reads as a list of cells (Row, Rd), blocks that are known whole (Blk). -/
namespace Go.Proofs.Ytkhppojlabajaaa
open Go.RowKit
set_option linter.unusedSimpArgs false
set_option linter.unusedVariables false

theorem block_add (a : Addr) (n : Nat) : (a.add n).block = a.block := by unfold Addr.add; split <;> rfl

/-- w' is w with new blocks, draws, and writes to the old blocks of S alone. -/
structure Touch (S : Nat → Prop) (w w' : World) : Prop where
  os : w'.os = w.os
  tape : w'.tape = w.tape
  output : w'.output = w.output
  size : w.heap.size ≤ w'.heap.size
  block : ∀ k, k < w.heap.size → ¬ S k → w'.heap[k]? = w.heap[k]?

def NoS : Nat → Prop := fun _ => False
def At (g : Nat) : Nat → Prop := fun k => k = g

section
variable {S S' : Nat → Prop} {w w' a b c : World}
theorem Touch.refl (S : Nat → Prop) (w : World) : Touch S w w := ⟨rfl, rfl, rfl, Nat.le_refl _, fun _ _ _ => rfl⟩
theorem Touch.mono (h : Touch S w w') (hS : ∀ k, S k → S' k) : Touch S' w w' := ⟨h.os, h.tape, h.output, h.size, fun k hk hn => h.block k hk (fun hs => hn (hS k hs))⟩
/-- The second step may touch what is new behind the first one. -/
theorem Touch.trans' (h : Touch S a b) (k : Touch S' b c) (hS : ∀ i, i < a.heap.size → S' i → S i) : Touch S a c :=
  ⟨k.os.trans h.os, k.tape.trans h.tape, k.output.trans h.output, Nat.le_trans h.size k.size, fun i hi hn => (k.block i (Nat.lt_of_lt_of_le hi h.size) (fun hs => hn (hS i hi hs))).trans (h.block i hi hn)⟩
theorem Touch.trans (h : Touch S a b) (k : Touch S b c) : Touch S a c := h.trans' k fun _ _ hs => hs
theorem Touch.drew (h : Touch S a w) : Touch S a w.drew := ⟨h.os, h.tape, h.output, h.size, h.block⟩
theorem Touch.drewN (h : Touch S a w) (n : Nat) : Touch S a (w.drewN n) := ⟨h.os, h.tape, h.output, h.size, h.block⟩
theorem Touch.alloc (h : Touch S a w) (o : Obj) : Touch S a (w.alloc o) :=
  h.trans' (S' := NoS) ⟨rfl, rfl, rfl, by simp, fun k hk _ => Below.heap_alloc _ _ _ hk⟩ fun _ _ h => h.elim
theorem Touch.setCell (h : Touch S a w) {p : Addr} (hp : p.block < a.heap.size → S p.block) (u : Value) : Touch S a (w.setCell p u) :=
  h.trans' (S' := At p.block) ⟨rfl, rfl, rfl, by simp [World.setCell], fun k _ hk => Below.heap_setCell _ _ _ _ hk⟩ fun i hi he => by
    have he' : i = p.block := he
    subst he'
    exact hp hi
theorem Touch.setAt {g : Nat} (h : Touch (At g) a w) (i : Nat) (u : Value) : Touch (At g) a (w.setCell ⟨g, i, none⟩ u) := h.setCell (p := ⟨g, i, none⟩) (fun _ => (rfl : g = g)) u
theorem Touch.setNew (h : Touch S a w) {p : Addr} (hp : a.heap.size ≤ p.block) (u : Value) : Touch S a (w.setCell p u) := h.setCell (fun hl => absurd hl (by omega)) u
theorem Touch.of_no (h : Touch NoS a w) : Touch S a w := h.mono fun _ h => h.elim
theorem Touch.grown (h : Touch S a w) {row : Option Nat} (hg : w.grownBy w' row) (hr : ∀ k, row = some k → k < a.heap.size → S k) : Touch S a w' :=
  ⟨hg.os.trans h.os, hg.tape.trans h.tape, hg.output.trans h.output, Nat.le_trans h.size hg.size, fun k hk hn =>
    (hg.block k (Nat.lt_of_lt_of_le hk h.size) (fun e => hn (hr k e.symm hk))).trans (h.block k hk hn)⟩
theorem Touch.below (h : Touch NoS w w') : Below w.heap.size w w' := ⟨h.os, h.tape, h.output, h.size, fun k hk => h.block k hk (fun h => h)⟩
theorem Touch.of_below (h : Below w.heap.size w w') (S : Nat → Prop) : Touch S w w' := ⟨h.os, h.tape, h.output, h.size, fun k hk _ => h.block k hk⟩
/-- Only blocks from the size of a on are touched behind b. -/
theorem Touch.then_new (h : Touch S a b) (k : Touch S' b c) (hS : ∀ i, S' i → a.heap.size ≤ i ∨ S i) : Touch S a c :=
  h.trans' k fun i hi hs => (hS i hs).elim (fun h => absurd hi (by omega)) id
theorem Touch.at_new {g : Nat} (h : Touch NoS a b) (k : Touch (At g) b c) (hg : a.heap.size ≤ g) : Touch NoS a c :=
  h.trans' k fun i hi e => absurd hi (by have : i = g := e; omega)
end

theorem Touch.cell {w w' : World} {a : Addr} {v : Value} (h : Touch NoS w w') (hc : w.cell? a = some v) : w'.cell? a = some v :=
  (World.cell?_of_block (h.block a.block (World.block_lt_of_cell? w a hc) (fun h => h))).trans hc

/-- Block g is just the cells cs, of element type t. -/
def Blk (w : World) (g : Nat) (t : TypeId) (cs : Array Value) : Prop := w.heap[g]? = some (.cells cs t (0, 0))
section
variable {S : Nat → Prop} {w w' : World} {g : Nat} {t : TypeId} {cs : Array Value}
theorem Blk.lt (h : Blk w g t cs) : g < w.heap.size := (Array.getElem?_eq_some_iff.1 h).1
theorem Blk.cell (h : Blk w g t cs) (i : Nat) : w.cell? ⟨g, i, none⟩ = cs[i]? := cell_of_row w g i cs t (0, 0) h
theorem Blk.frozen (h : Blk w g t cs) (i : Nat) : w.frozen? ⟨g, i, none⟩ = false := by
  unfold Blk at h
  simp [World.frozen?, h]
theorem Blk.new (w : World) (t : TypeId) (cs : Array Value) : Blk (w.alloc (.cells cs t)) w.heap.size t cs := heap_alloc_new w _
theorem Blk.drew (h : Blk w g t cs) : Blk w.drew g t cs := h
theorem Blk.drewN (h : Blk w g t cs) (n : Nat) : Blk (w.drewN n) g t cs := h
theorem Blk.alloc (h : Blk w g t cs) (o : Obj) : Blk (w.alloc o) g t cs := (Below.heap_alloc w o g h.lt).trans h
theorem Blk.set_ (h : Blk w g t cs) (i : Nat) (u : Value) : Blk (w.setCell ⟨g, i, none⟩ u) g t (cs.setIfInBounds i u) := by
  unfold Blk at h ⊢
  simp [World.setCell, Array.getElem?_modify, h]
theorem Blk.far (h : Blk w g t cs) {p : Addr} (hp : g ≠ p.block) (u : Value) : Blk (w.setCell p u) g t cs := (Below.heap_setCell w p u g hp).trans h
theorem Blk.touch (h : Blk w g t cs) (k : Touch S w w') (hn : ¬ S g) : Blk w' g t cs := (k.block g h.lt hn).trans h
theorem Blk.grown {row : Option Nat} (h : Blk w g t cs) (hb : w.grownBy w' row) (hg : row ≠ some g) : Blk w' g t cs := (hb.block g h.lt (fun e => hg e.symm)).trans h
theorem Blk.ne_ {g' : Nat} {t' : TypeId} {cs' : Array Value} (h : Blk w g t cs) (h' : Blk w g' t' cs') (hne : t ≠ t') : g ≠ g' := by
  rintro rfl
  unfold Blk at h h'
  rw [h] at h'
  injection h' with h'
  injection h' with _ ht
  exact hne ht
end

/-- A slice's address that reads as the cells xs, in a block of element type e of the program's own making. -/
def Row (w : World) (e : TypeId) (A : Option Addr) (xs : List Value) : Prop :=
  xs ≠ [] → ∃ g off cs, A = some ⟨g, off, none⟩ ∧ Blk w g e cs ∧ ∀ j u, xs[j]? = some u → cs[off + j]? = some u
section
variable {S : Nat → Prop} {w w' : World} {e : TypeId} {A : Option Addr} {xs : List Value}
theorem Row.nil_ (w : World) (e : TypeId) (A : Option Addr) : Row w e A [] := fun h => absurd rfl h
theorem Row.cell (h : Row w e A xs) {j : Nat} {u : Value} (hj : xs[j]? = some u) : ∃ g off, A = some ⟨g, off, none⟩ ∧ w.cell? ⟨g, off + j, none⟩ = some u := by
  obtain ⟨g, off, cs, hA, hb, hc⟩ := h (by rintro rfl; simp at hj)
  exact ⟨g, off, hA, (hb.cell _).trans (hc j u hj)⟩
theorem Row.touch (h : Row w e A xs) (k : Touch S w w') (hn : ∀ g cs, Blk w g e cs → ¬ S g) : Row w' e A xs := fun hx => by
  obtain ⟨g, off, cs, hA, hb, hc⟩ := h hx
  exact ⟨g, off, cs, hA, hb.touch k (hn g cs hb), hc⟩
theorem Row.touch_at (h : Row w e A xs) {g0 : Nat} {t0 : TypeId} {cs0 : Array Value} (k : Touch (At g0) w w') (hb : Blk w g0 t0 cs0) (hne : e ≠ t0) : Row w' e A xs :=
  h.touch k fun _ _ hb' he => hb'.ne_ hb hne he
theorem Row.touch_no (h : Row w e A xs) (k : Touch NoS w w') : Row w' e A xs := h.touch k fun _ _ _ h => h
theorem Row.drop (h : Row w e A xs) (k : Nat) (hk : k < xs.length) : Row w e (A.map (·.add k)) (xs.drop k) := fun _ => by
  obtain ⟨g, off, cs, hA, hb, hc⟩ := h (by rintro rfl; simp at hk)
  refine ⟨g, off + k, cs, ?_, hb, fun j u hu => ?_⟩
  · subst hA
    by_cases h0 : k = 0
    · subst h0; simp [Addr.add]
    · simp [Addr.add, h0]
  · rw [List.getElem?_drop] at hu
    have := hc _ _ hu
    rwa [← Nat.add_assoc] at this
theorem Row.of_own {base : Nat} {size n c : Nat} (h : w.ownsRow base e size (.slice A n c) n xs) : Row w e A xs := fun hx => by
  rcases h.2 with ⟨_, hn⟩ | ⟨g, cap, cs, hv, _, hb, _, _, _, ht⟩
  · exact absurd (List.eq_nil_of_length_eq_zero (by rw [h.1, hn]; simp)) hx
  · injection hv with hA
    subst hA
    refine ⟨g, 0, cs, rfl, hb, fun j u hu => ?_⟩
    rw [Nat.zero_add]
    rw [← ht, List.getElem?_take] at hu
    split at hu
    · simpa using hu
    · cases hu
theorem add_plain (g off j : Nat) : (⟨g, off, none⟩ : Addr).add j = ⟨g, off + j, none⟩ := by unfold Addr.add; split <;> simp_all
theorem Row.cells (h : Row w e A xs) (k : Touch NoS w w') : ∀ b, A = some b → ∀ j u, xs[j]? = some u → w'.cell? (b.add j) = some u := by
  intro b hb j u hu
  obtain ⟨g, off, hA, hc⟩ := (h.touch_no k).cell hu
  rw [hA] at hb
  injection hb with hb
  subst hb
  rwa [add_plain]
theorem own_out {base size n : Nat} {v : Value} (h : w.ownsRow base e size v n xs) (hn : 0 < n) : ∃ g c, v = .slice (some ⟨g, 0, none⟩) n c ∧ n ≤ c ∧ base ≤ g := by
  rcases h.2 with ⟨_, h0⟩ | ⟨g, cap, cs, hv, hb, _, hc, _⟩
  · omega
  · exact ⟨g, cap, hv, hc, hb⟩
end
/-- The one cell, or the few cells, that a new block holds. -/
theorem new_cells (w : World) (t : TypeId) (l : List Value) (g : Nat) (hg : g = w.heap.size) : ∀ j u, l[j]? = some u → (w.alloc (.cells l.toArray t)).cell? ((⟨g, 0, none⟩ : Addr).add j) = some u := by
  intro j u hu
  subst hg
  rw [add_plain, Nat.zero_add, (Blk.new w t l.toArray).cell]
  simpa using hu

/-- A slice that came in, or was made, reads as the cells xs: by its cells alone. -/
def Rd (w : World) (A : Option Addr) (xs : List Value) : Prop :=
  xs ≠ [] → ∃ g off, A = some ⟨g, off, none⟩ ∧ g < w.heap.size ∧ ∀ j u, xs[j]? = some u → w.cell? ⟨g, off + j, none⟩ = some u
theorem Rd.touch_no {w w' : World} {A : Option Addr} {xs : List Value} (h : Rd w A xs) (k : Touch NoS w w') : Rd w' A xs := fun hx => by
  obtain ⟨g, off, hA, hg, hc⟩ := h hx
  exact ⟨g, off, hA, Nat.lt_of_lt_of_le hg k.size, fun j u hu => (World.cell?_of_block (k.block g hg (fun h => h))).trans (hc j u hu)⟩
theorem Row.rd {w : World} {e : TypeId} {A : Option Addr} {xs : List Value} (h : Row w e A xs) : Rd w A xs := fun hx => by
  obtain ⟨g, off, cs, hA, hb, hc⟩ := h hx
  exact ⟨g, off, hA, hb.lt, fun j u hu => (hb.cell _).trans (hc j u hu)⟩

/-- append onto a row of the call's own: where the new row lies is told, too. -/
theorem wp_app {P : Program} (w : World) {o : Oper} {a : Act} {K : Act → World → Prop} {Q : Exit → Act → World → Prop} (s x : Operand) (t : TypeId)
    (ho : o.op = .call { callee := .builtin .append, args := #[s, x], argTypes := #[t, t] })
    (base : Nat) (e : TypeId) (i : TypeInfo) (z : Value) (size bytes : Nat) (ht : P.underlying t = some (.slice e)) (hi : P.info? e = some i) (hz : i.zero = some z)
    (hsize : i.size = size) (hby : i.bytes = bytes) (hzs : z.cells.size = size) (hsz : 0 < size)
    (v : Value) (n : Nat) (xs : List Value) (hs : a.eval s = v) (hown : w.ownsRow base e size v n xs)
    (ad : Addr) (m c : Nat) (news : List Value) (hx : a.eval x = .slice (some ad) m c) (hl : news.length = m * size) (hnews : ∀ j u, news[j]? = some u → w.cell? (ad.add j) = some u) (h1 : ∀ u ∈ news, u.oneCell' = true)
    (h63 : n + m ≤ maxLen) (hbytes : (n + m) * bytes ≤ 140737488355328) (hbase : base ≤ w.heap.size)
    (h : ∀ v' w', w'.ownsRow base e size v' (n + m) (xs ++ news) → w.grownBy w' v.ownBlock → (v'.ownBlock = v.ownBlock ∨ v'.ownBlock = some w.heap.size) → K (a.put o.dst v') w') : o.wp P a w K Q := by
  obtain ⟨v', w', hrun, h2, h3, _, h5⟩ := run_append_own_at (P := P) w base t o.type e i z size bytes ht hi hz hsize hby hzs hsz v n xs hown ad m c news hl hnews h1 h63 hbytes hbase
  unfold Oper.wp execOp
  simp only [ho, resolve, invoke, builtin, Sem.run_bind, Sem.run_pure, Result.andThen_ok, List.map_toArray, List.map_cons, List.map_nil, hs, hx, hrun]
  exact h v' w' h2 h3 h5
theorem wpList_app {P : Program} (w : World) {ops : Array Oper} {rest : List Oper} {o : Oper} {a : Act} {Q : Exit → Act → World → Prop} (hgd : o.guard = none) (s x : Operand) (t : TypeId)
    (ho : o.op = .call { callee := .builtin .append, args := #[s, x], argTypes := #[t, t] })
    (base : Nat) (e : TypeId) (i : TypeInfo) (z : Value) (size bytes : Nat) (ht : P.underlying t = some (.slice e)) (hi : P.info? e = some i) (hz : i.zero = some z)
    (hsize : i.size = size) (hby : i.bytes = bytes) (hzs : z.cells.size = size) (hsz : 0 < size)
    (v : Value) (n : Nat) (xs : List Value) (hs : a.eval s = v) (hown : w.ownsRow base e size v n xs)
    (ad : Addr) (m c : Nat) (news : List Value) (hx : a.eval x = .slice (some ad) m c) (hl : news.length = m * size) (hnews : ∀ j u, news[j]? = some u → w.cell? (ad.add j) = some u) (h1 : ∀ u ∈ news, u.oneCell' = true)
    (h63 : n + m ≤ maxLen) (hbytes : (n + m) * bytes ≤ 140737488355328) (hbase : base ≤ w.heap.size)
    (h : ∀ v' w', w'.ownsRow base e size v' (n + m) (xs ++ news) → w.grownBy w' v.ownBlock → (v'.ownBlock = v.ownBlock ∨ v'.ownBlock = some w.heap.size) → wpList P ops Q rest (a.put o.dst v') w') : wpList P ops Q (o :: rest) a w :=
  wpList_plain hgd fun _ hK => wp_app w s x t ho base e i z size bytes ht hi hz hsize hby hzs hsz v n xs hs hown ad m c news hx hl hnews h1 h63 hbytes hbase fun v' w' h2 h3 h4 => hK _ _ (h v' w' h2 h3 h4)
end Go.Proofs.Ytkhppojlabajaaa
