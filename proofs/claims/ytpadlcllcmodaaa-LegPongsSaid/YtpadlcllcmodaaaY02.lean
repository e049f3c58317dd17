/- Bytes: rows of bytes, a string's bytes, conversions between them. | More words for memory: append from whatever slice. | Rows of the call's own (ownsRow): touched, made, written. -/
import Derived.Test.YtpadlcllcmodaaaY01
import Derived.Test.YtpadlcllcmodaaaProg
import Derived.Lib.ConvBytes
import Derived.Lib.SlBytesRow
import Derived.Lib.SlBytesConst
import Derived.DataShut
import Derived.KernelRfl
import Derived.BigQuiet
import Derived.Deep.QuietTactic
import Derived.RegionTactic
import Derived.ChangeAlike
import Derived.Deep.RegionHeld3
import Derived.Deep.LoopGhost
import Derived.Deep.DeepCutAuto
import Derived.Deep.CutBlock
import Derived.IntWalk
import Derived.OwnWalk
/- Bytes: rows of bytes, a string's bytes, conversions between them. -/
namespace Go.Proofs.Ytpadlcllcmodaaa
open Go.RowKit
set_option linter.unusedSimpArgs false
set_option linter.unusedVariables false

theorem Rd.touch {S : Nat → Prop} {w w' : World} {A : Option Addr} {xs : List Value} (h : Rd w A xs) (k : Touch S w w') (hn : ∀ a, A = some a → ¬ S a.block) : Rd w' A xs := fun hx => by
  obtain ⟨g, off, hA, hg, hc⟩ := h hx
  exact ⟨g, off, hA, Nat.lt_of_lt_of_le hg k.size, fun j u hu => (World.cell?_of_block (k.block g hg (hn _ hA))).trans (hc j u hu)⟩
/-- Bytes as cells. -/
def u8s (l : List Int) : List Value := l.map (Value.int .u8)
def bytesIn (l : List Int) : Prop := ∀ x ∈ l, 0 ≤ x ∧ x ≤ 255
theorem u8s_at {w : World} {A : Option Addr} {l : List Int} (h : Rd w A (u8s l)) (k : Nat) (hk : k < l.length) : ∃ g off, A = some ⟨g, off, none⟩ ∧ g < w.heap.size ∧ w.cell? ⟨g, off + k, none⟩ = some (.int .u8 l[k]) := by
  obtain ⟨g, off, hA, hg, hc⟩ := h (by intro he; simp [u8s] at he; rw [he] at hk; simp at hk)
  exact ⟨g, off, hA, hg, hc k _ (by simp [u8s, hk])⟩
theorem Rd.new (w : World) (l : List Value) (t : TypeId) (fr : Nat × Nat) : Rd (w.alloc (.cells l.toArray t fr)) (some ⟨w.heap.size, 0, none⟩) l := fun _ =>
  ⟨w.heap.size, 0, rfl, by simp, fun j u hu => by
    rw [Nat.zero_add]
    unfold World.cell?
    rw [heap_alloc_new]
    simpa using hu⟩
def sb (s : ByteArray) : List Int := s.data.toList.map fun b => (b.toNat : Int)
theorem sb_length (s : ByteArray) : (sb s).length = s.size := by simp [sb]
theorem sb_in (s : ByteArray) : bytesIn (sb s) := by
  intro x hx
  simp [sb] at hx
  obtain ⟨b, _, rfl⟩ := hx
  have := b.toNat_lt
  omega
theorem sb_append (s t : ByteArray) : sb (s ++ t) = sb s ++ sb t := by simp [sb]
theorem sb_extract (s : ByteArray) (i j : Nat) : sb (s.extract i j) = ((sb s).take j).drop i := by
  simp [sb, ByteArray.data_extract, Array.toList_extract, List.extract_eq_take_drop, List.map_take, List.map_drop, List.drop_take]
theorem bytesIn.take {l : List Int} (h : bytesIn l) (k : Nat) : bytesIn (l.take k) := fun x hx => h x (List.mem_of_mem_take hx)
theorem bytesIn.drop {l : List Int} (h : bytesIn l) (k : Nat) : bytesIn (l.drop k) := fun x hx => h x (List.mem_of_mem_drop hx)
/-- '[]byte(s)'. -/
theorem conv_rd (w : World) (e : TypeId) (s : ByteArray) : Rd (Lib.bytesWorld w e s) (some ⟨w.heap.size, 0, none⟩) (u8s (sb s)) := fun _ =>
  ⟨w.heap.size, 0, rfl, by rw [Lib.bytesWorld_size]; omega, fun j u hu => by
    have hj : j < s.size := by have := (List.getElem?_eq_some_iff.1 hu).1; simpa [u8s, sb_length] using this
    rw [Nat.zero_add, Lib.bytesWorld_cell w e s j hj]
    simp [u8s, sb] at hu
    obtain ⟨b, hb, rfl⟩ := hu
    simp [List.getD, hb]⟩
theorem conv_touch (w : World) (e : TypeId) (s : ByteArray) : Touch NoS w (Lib.bytesWorld w e s) :=
  ⟨rfl, rfl, rfl, by rw [Lib.bytesWorld_size]; omega, fun k hk _ => Lib.bytesWorld_at_old w e s k hk⟩
def glue (l : List ByteArray) : ByteArray := ⟨(l.flatMap fun s => s.data.toList).toArray⟩
theorem glue_add (l : List ByteArray) (k : Nat) (hk : k < l.length) : glue (l.take k) ++ l[k] = glue (l.take (k + 1)) := by
  apply ByteArray.ext
  apply Array.toList_inj.1
  rw [show l.take (k + 1) = l.take k ++ [l[k]] from by rw [List.take_add_one, List.getElem?_eq_getElem hk]; rfl]
  generalize l.take k = q
  simp [glue]
theorem glue_nil : glue [] = ⟨#[]⟩ := rfl
theorem str_at {w : World} {A : Option Addr} {l : List ByteArray} (h : Rd w A (l.flatMap fun x => [.string x])) (k : Nat) (hk : k < l.length) : ∃ g off, A = some ⟨g, off, none⟩ ∧ g < w.heap.size ∧ w.cell? ⟨g, off + k, none⟩ = some (.string l[k]) := by
  have hf : ∀ l : List ByteArray, (l.flatMap fun x => [Value.string x]) = l.map Value.string := fun l => by induction l <;> simp_all
  rw [hf] at h
  obtain ⟨g, off, rfl, hg, hc⟩ := h (by intro h0; simp at h0; rw [h0] at hk; exact absurd hk (by simp))
  exact ⟨g, off, rfl, hg, hc k _ (by simp [hk])⟩
theorem conv_one (w : World) (b : Int) (t : TypeId) (fr : Nat × Nat) (cap : Nat) :
    (convert 36 9 (.slice (some ⟨w.heap.size, 0, none⟩) 1 cap)).run Try.prog (w.alloc (.cells #[.int .u8 b] t fr)) = .ok (.string (Go.strOfNums [b])) (w.alloc (.cells #[.int .u8 b] t fr)) :=
  Go.run_convert_bytes_arg (P := Try.prog) _ 36 5 Try.underlying36 Try.underlying5 w.heap.size 0 1 cap [b] rfl (fun i hi => by
    have : i = 0 := by omega
    subst this
    unfold World.cell?
    rw [heap_alloc_new]
    rfl) 9 Try.underlying9
theorem sb_one (b : Int) (h0 : 0 ≤ b) (h1 : b ≤ 255) : sb (Go.strOfNums [b]) = [b] := by
  simp [sb, Go.strOfNums]
  omega
theorem u8_bounds {b : Int} (h : (Lit.int .u8 b).wf = true) : 0 ≤ b ∧ b ≤ 255 := by
  obtain ⟨h1, h2⟩ := (Lit.wf_int_iff .u8 b).1 h
  rw [show IntKind.u8.min = 0 from rfl] at h1
  rw [show IntKind.u8.max = 255 from rfl] at h2
  exact ⟨h1, h2⟩
theorem conv_lit (w : World) (xs : List Int) (cs : Array Value) (t : TypeId) (fr : Nat × Nat) (n cap : Nat) (hn : xs.length = n) (hc : ∀ i, i < n → cs[i]? = some (.int .u8 (xs.getD i 0))) :
    (convert 36 9 (.slice (some ⟨w.heap.size, 0, none⟩) n cap)).run Try.prog (w.alloc (.cells cs t fr)) = .ok (.string (Go.strOfNums xs)) (w.alloc (.cells cs t fr)) :=
  Go.run_convert_bytes_arg (P := Try.prog) _ 36 5 Try.underlying36 Try.underlying5 w.heap.size 0 n cap xs hn (fun i hi => by
    unfold World.cell?
    rw [heap_alloc_new, Nat.zero_add]
    exact hc i hi) 9 Try.underlying9
theorem conv_two (w : World) (a b : Int) (t : TypeId) (fr : Nat × Nat) (cap : Nat) :
    (convert 36 9 (.slice (some ⟨w.heap.size, 0, none⟩) 2 cap)).run Try.prog (w.alloc (.cells #[.int .u8 a, .int .u8 b] t fr)) = .ok (.string (Go.strOfNums [a, b])) (w.alloc (.cells #[.int .u8 a, .int .u8 b] t fr)) :=
  conv_lit w [a, b] _ t fr 2 cap rfl (fun i hi => by rcases i with _ | _ | i <;> first | rfl | omega)
theorem conv_three (w : World) (a b c : Int) (t : TypeId) (fr : Nat × Nat) (cap : Nat) :
    (convert 36 9 (.slice (some ⟨w.heap.size, 0, none⟩) 3 cap)).run Try.prog (w.alloc (.cells #[.int .u8 a, .int .u8 b, .int .u8 c] t fr)) = .ok (.string (Go.strOfNums [a, b, c])) (w.alloc (.cells #[.int .u8 a, .int .u8 b, .int .u8 c] t fr)) :=
  conv_lit w [a, b, c] _ t fr 3 cap rfl (fun i hi => by rcases i with _ | _ | _ | i <;> first | rfl | omega)
theorem conv_four (w : World) (a b c d : Int) (t : TypeId) (fr : Nat × Nat) (cap : Nat) :
    (convert 36 9 (.slice (some ⟨w.heap.size, 0, none⟩) 4 cap)).run Try.prog (w.alloc (.cells #[.int .u8 a, .int .u8 b, .int .u8 c, .int .u8 d] t fr)) = .ok (.string (Go.strOfNums [a, b, c, d])) (w.alloc (.cells #[.int .u8 a, .int .u8 b, .int .u8 c, .int .u8 d] t fr)) :=
  conv_lit w [a, b, c, d] _ t fr 4 cap rfl (fun i hi => by rcases i with _ | _ | _ | _ | i <;> first | rfl | omega)
theorem str_eq (a b : ByteArray) : (a.toList == b.toList) = decide (a = b) := by
  by_cases h : a = b
  · subst h; simp
  · rw [decide_eq_false h, beq_eq_false_iff_ne]
    intro h2
    rw [ByteArray.toList_eq, ByteArray.toList_eq] at h2
    exact h (ByteArray.ext (Array.toList_inj.1 h2))
theorem sb_inj {s t : ByteArray} (h : sb s = sb t) : s = t := by
  apply ByteArray.ext
  apply Array.toList_inj.1
  have : ∀ (a b : List UInt8), (a.map fun x => (x.toNat : Int)) = (b.map fun x => (x.toNat : Int)) → a = b := by
    intro a
    induction a with
    | nil => intro b h; cases b <;> simp_all
    | cons x a ih =>
      intro b h
      cases b with
      | nil => simp at h
      | cons y b =>
        simp only [List.map_cons, List.cons.injEq] at h
        obtain ⟨h1, h2⟩ := h
        have h1 : x.toNat = y.toNat := by omega
        rw [UInt8.toNat_inj.1 h1, ih b h2]
  exact this _ _ h
theorem sb_nums (l : List Int) (h : bytesIn l) : sb (Go.strOfNums l) = l := by
  induction l with
  | nil => rfl
  | cons x l ih =>
    have hx := h x (by simp)
    have := ih (fun y hy => h y (by simp [hy]))
    simp only [sb, Go.strOfNums, List.map_cons, List.cons.injEq] at this ⊢
    refine ⟨?_, this⟩
    simp
    omega
theorem sb_get (s : ByteArray) (k : Nat) (hk : k < s.size) : (sb s)[k]? = some ((s[k].toNat : Nat) : Int) := by
  simp only [sb, List.getElem?_map]
  rw [show s.data.toList[k]? = some s[k] from by simp [hk]; rfl]
  rfl
theorem sb_getD (s : ByteArray) (k : Nat) (hk : k < s.size) : (sb s).getD k 0 = ((s[k].toNat : Nat) : Int) := by
  rw [List.getD_eq_getElem?_getD, sb_get s k hk]; simp
theorem i64_at {w : World} {A : Option Addr} {l : List Int} (h : Rd w A (l.flatMap fun x => [.int .i64 x])) (k : Nat) (hk : k < l.length) : ∃ g off, A = some ⟨g, off, none⟩ ∧ g < w.heap.size ∧ w.cell? ⟨g, off + k, none⟩ = some (.int .i64 l[k]) := by
  have hf : ∀ l : List Int, (l.flatMap fun x => [Value.int .i64 x]) = l.map (Value.int .i64) := fun l => by induction l <;> simp_all
  rw [hf] at h
  obtain ⟨g, off, rfl, hg, hc⟩ := h (by intro h0; simp at h0; rw [h0] at hk; exact absurd hk (by simp))
  exact ⟨g, off, rfl, hg, hc k _ (by simp [hk])⟩
theorem int_beq_nat (a b : Nat) : ((a : Int) == (b : Int)) = decide (a = b) := by
  by_cases h : a = b
  · rw [decide_eq_true h, h]; simp
  · rw [decide_eq_false h, beq_eq_false_iff_ne]; omega
theorem str_ne (s : ByteArray) (hpos : 0 < s.size) : (s.toList == []) = false ∧ s.toList.isEmpty = false := by
  have hl : s.toList.length = s.size := by rw [ByteArray.toList_eq, Array.length_toList]; rfl
  rcases h : s.toList with _ | ⟨a, l⟩
  · rw [h] at hl; simp at hl; omega
  · exact ⟨by simp, rfl⟩
end Go.Proofs.Ytpadlcllcmodaaa
/- More words for memory: append from whatever slice. -/
namespace Go.Proofs.Ytpadlcllcmodaaa
open Go.RowKit
set_option linter.unusedSimpArgs false
set_option linter.unusedVariables false

/-- append onto a row of the call's own, from a row of the program's own making (or nothing). -/
theorem run_app_of_nil {P : Program} (w : World) (base : Nat) (t ty e : TypeId) (i : TypeInfo) (size : Nat) (ht : P.underlying t = some (.slice e)) (hi : P.info? e = some i)
    (v : Value) (n : Nat) (xs : List Value) (hown : w.ownsRow base e size v n xs) (c : Nat) : (Builtin.append_ #[t, t] ty #[v, .slice none 0 c]).run P w = .ok v w := by
  rcases hown.2 with ⟨rfl, rfl⟩ | ⟨g, cap, cur, rfl, _, _, hnc, _⟩
  · simp [Builtin.append_, run_underlying ht, sizeOf, typeInfo, hi, Builtin.lenOf, Builtin.firstCells]
  · simp [Builtin.append_, run_underlying ht, sizeOf, typeInfo, hi, Builtin.lenOf, Builtin.firstCells, hnc, storeCells]
theorem wp_app_row {P : Program} (w : World) {o : Oper} {a : Act} {K : Act → World → Prop} {Q : Exit → Act → World → Prop} (s x : Operand) (t : TypeId)
    (ho : o.op = .call { callee := .builtin .append, args := #[s, x], argTypes := #[t, t] })
    (base : Nat) (e : TypeId) (i : TypeInfo) (z : Value) (size bytes : Nat) (ht : P.underlying t = some (.slice e)) (hi : P.info? e = some i) (hz : i.zero = some z)
    (hsize : i.size = size) (hby : i.bytes = bytes) (hzs : z.cells.size = size) (hsz : 0 < size)
    (v : Value) (n : Nat) (xs : List Value) (hs : a.eval s = v) (hown : w.ownsRow base e size v n xs)
    (A : Option Addr) (m c : Nat) (news : List Value) (hx : a.eval x = .slice A m c) (hl : news.length = m * size) (hr : Rd w A news) (h1 : ∀ u ∈ news, u.oneCell' = true)
    (h63 : n + m ≤ maxLen) (hbytes : (n + m) * bytes ≤ 140737488355328) (hbase : base ≤ w.heap.size)
    (h : ∀ v' w', w'.ownsRow base e size v' (n + m) (xs ++ news) → w.grownBy w' v.ownBlock → (v'.ownBlock = v.ownBlock ∨ v'.ownBlock = some w.heap.size) → K (a.put o.dst v') w') : o.wp P a w K Q := by
  rcases A with _ | ad
  · have hn : news = [] := by
      rcases news with _ | ⟨u, l⟩
      · rfl
      · obtain ⟨g, off, hA, _⟩ := hr (by simp)
        cases hA
    subst hn
    have hm : m = 0 := by
      rcases Nat.eq_zero_or_pos m with h0 | h0
      · exact h0
      · have := Nat.mul_pos h0 hsz; simp at hl; omega
    subst hm
    have hrun := run_app_of_nil (P := P) w base t o.type e i size ht hi v n xs hown c
    unfold Oper.wp execOp
    simp only [ho, resolve, invoke, builtin, Sem.run_bind, Sem.run_pure, Result.andThen_ok, List.map_toArray, List.map_cons, List.map_nil, hs, hx, hrun]
    exact h v w (by simpa using hown) (World.grownBy.refl w _) (.inl rfl)
  · refine wp_app w s x t ho base e i z size bytes ht hi hz hsize hby hzs hsz v n xs hs hown ad m c news hx hl ?_ h1 h63 hbytes hbase h
    intro j u hu
    obtain ⟨g, off, hA, _, hc⟩ := hr (by rintro rfl; simp at hu)
    injection hA with hA
    subst hA
    rw [add_plain]
    exact hc j u hu
theorem wpList_app_row {P : Program} (w : World) {ops : Array Oper} {rest : List Oper} {o : Oper} {a : Act} {Q : Exit → Act → World → Prop} (hgd : o.guard = none) (s x : Operand) (t : TypeId)
    (ho : o.op = .call { callee := .builtin .append, args := #[s, x], argTypes := #[t, t] })
    (base : Nat) (e : TypeId) (i : TypeInfo) (z : Value) (size bytes : Nat) (ht : P.underlying t = some (.slice e)) (hi : P.info? e = some i) (hz : i.zero = some z)
    (hsize : i.size = size) (hby : i.bytes = bytes) (hzs : z.cells.size = size) (hsz : 0 < size)
    (v : Value) (n : Nat) (xs : List Value) (hs : a.eval s = v) (hown : w.ownsRow base e size v n xs)
    (A : Option Addr) (m c : Nat) (news : List Value) (hx : a.eval x = .slice A m c) (hl : news.length = m * size) (hr : Rd w A news) (h1 : ∀ u ∈ news, u.oneCell' = true)
    (h63 : n + m ≤ maxLen) (hbytes : (n + m) * bytes ≤ 140737488355328) (hbase : base ≤ w.heap.size)
    (h : ∀ v' w', w'.ownsRow base e size v' (n + m) (xs ++ news) → w.grownBy w' v.ownBlock → (v'.ownBlock = v.ownBlock ∨ v'.ownBlock = some w.heap.size) → wpList P ops Q rest (a.put o.dst v') w') : wpList P ops Q (o :: rest) a w :=
  wpList_plain hgd fun _ hK => wp_app_row w s x t ho base e i z size bytes ht hi hz hsize hby hzs hsz v n xs hs hown A m c news hx hl hr h1 h63 hbytes hbase fun v' w' h2 h3 h4 => hK _ _ (h v' w' h2 h3 h4)
theorem step_app_row {P : Program} (w : World) {ops : Array Oper} {o : Oper} {a : Act} {K : Act → World → Prop} {Q : Exit → Act → World → Prop} {E : Prop} (hgd : o.guard = none) (s x : Operand) (t : TypeId)
    (ho : o.op = .call { callee := .builtin .append, args := #[s, x], argTypes := #[t, t] })
    (base : Nat) (e : TypeId) (i : TypeInfo) (z : Value) (size bytes : Nat) (ht : P.underlying t = some (.slice e)) (hi : P.info? e = some i) (hz : i.zero = some z)
    (hsize : i.size = size) (hby : i.bytes = bytes) (hzs : z.cells.size = size) (hsz : 0 < size)
    (v : Value) (n : Nat) (xs : List Value) (hs : a.eval s = v) (hown : w.ownsRow base e size v n xs)
    (A : Option Addr) (m c : Nat) (news : List Value) (hx : a.eval x = .slice A m c) (hl : news.length = m * size) (hr : Rd w A news) (h1 : ∀ u ∈ news, u.oneCell' = true)
    (h63 : n + m ≤ maxLen) (hbytes : (n + m) * bytes ≤ 140737488355328) (hbase : base ≤ w.heap.size)
    (h : ∀ v' w', w'.ownsRow base e size v' (n + m) (xs ++ news) → w.grownBy w' v.ownBlock → (v'.ownBlock = v.ownBlock ∨ v'.ownBlock = some w.heap.size) → K (a.put o.dst v') w') :
    if Region.wanted o (yielded ops a.tmps) = true then Oper.wp P o a w K Q else E := by
  have hw : Region.wanted o (yielded ops a.tmps) = true := by simp [Region.wanted, hgd]
  rw [if_pos hw]
  exact wp_app_row w s x t ho base e i z size bytes ht hi hz hsize hby hzs hsz v n xs hs hown A m c news hx hl hr h1 h63 hbytes hbase h

end Go.Proofs.Ytpadlcllcmodaaa
/- Rows of the call's own (ownsRow): touched, made, written. -/
namespace Go.Proofs.Ytpadlcllcmodaaa
open Go.RowKit
set_option linter.unusedSimpArgs false
set_option linter.unusedVariables false

section
variable {S : Nat → Prop} {w w' : World} {base : Nat} {e : TypeId} {size n : Nat} {v : Value} {xs : List Value}
theorem own_touch (h : w.ownsRow base e size v n xs) (k : Touch S w w') (hS : ∀ b, v.ownBlock = some b → ¬ S b) : w'.ownsRow base e size v n xs := by
  refine ⟨h.1, ?_⟩
  rcases h.2 with hn | ⟨g, cap, cur, rfl, hb, hg, rest⟩
  · exact .inl hn
  · exact .inr ⟨g, cap, cur, rfl, hb, (k.block g (Array.getElem?_eq_some_iff.1 hg).1 (hS g rfl)).trans hg, rest⟩
theorem own_no (h : w.ownsRow base e size v n xs) (k : Touch NoS w w') : w'.ownsRow base e size v n xs := own_touch h k fun _ _ h => h
theorem own_type {b : Nat} (h : w.ownsRow base e size v n xs) (hv : v.ownBlock = some b) : ∃ cs, Blk w b e cs := by
  rcases h.2 with ⟨rfl, _⟩ | ⟨g, cap, cur, rfl, _, hg, _⟩
  · simp [Value.ownBlock] at hv
  · simp [Value.ownBlock] at hv
    subst hv
    exact ⟨cur, hg⟩
theorem own_base {b : Nat} (h : w.ownsRow base e size v n xs) (hv : v.ownBlock = some b) : base ≤ b := by
  rcases h.2 with ⟨rfl, _⟩ | ⟨g, cap, cur, rfl, hb, hg, _⟩
  · simp [Value.ownBlock] at hv
  · simp [Value.ownBlock] at hv
    omega
theorem own_lower {base' : Nat} (h : w.ownsRow base e size v n xs) (hb : base' ≤ base) : w.ownsRow base' e size v n xs := by
  refine ⟨h.1, ?_⟩
  rcases h.2 with hn | ⟨g, cap, cur, rfl, hg, rest⟩
  · exact .inl hn
  · exact .inr ⟨g, cap, cur, rfl, by omega, rest⟩
theorem own_blk {g : Nat} (h : Blk w g e xs.toArray) (hx : xs.length = n) (hb : base ≤ g) (hn : n ≤ maxLen) : w.ownsRow base e 1 (.slice (some ⟨g, 0, none⟩) n n) n xs :=
  ⟨by omega, .inr ⟨g, n, xs.toArray, rfl, hb, h, Nat.le_refl _, hn, by simp [hx], by simp [← hx]⟩⟩
theorem own_nil (w : World) (base : Nat) (e : TypeId) (size : Nat) : w.ownsRow base e size (.slice none 0 0) 0 [] := ⟨by simp, .inl ⟨rfl, rfl⟩⟩
/-- What a row of the call's own is. -/
theorem own_cases (h : w.ownsRow base e size v n xs) : ∃ A c, v = .slice A n c ∧ n ≤ c ∧ c ≤ maxLen ∧ Rd w A xs ∧ (A = none → n = 0) ∧ ∀ a, A = some a → a.spot = none ∧ a.off = 0 ∧ base ≤ a.block ∧ a.block < w.heap.size := by
  have hr := (Row.of_own (A := none) (c := 0) (w := w) (base := base) (e := e) (size := size) (n := n) (xs := xs))
  rcases h.2 with ⟨rfl, rfl⟩ | ⟨g, cap, cur, rfl, hb, hg, hc, hm, hs, ht⟩
  · have hx : xs = [] := List.eq_nil_of_length_eq_zero (by rw [h.1]; simp)
    subst hx
    exact ⟨none, 0, rfl, Nat.le_refl _, by simp [maxLen], fun h => absurd rfl h, fun _ => rfl, fun a ha => by cases ha⟩
  · exact ⟨_, cap, rfl, hc, hm, (Row.of_own h).rd, fun h => (by cases h), fun a ha => by injection ha with ha; subst ha; exact ⟨rfl, rfl, hb, (Array.getElem?_eq_some_iff.1 hg).1⟩⟩
/-- An element written. -/
theorem own_set {g c : Nat} (h : w.ownsRow base e 1 (.slice (some ⟨g, 0, none⟩) n c) n xs) (j : Nat) (hj : j < n) (u : Value) : (w.setCell ⟨g, j, none⟩ u).ownsRow base e 1 (.slice (some ⟨g, 0, none⟩) n c) n (xs.set j u) := by
  refine ⟨by rw [List.length_set]; exact h.1, ?_⟩
  rcases h.2 with ⟨hv, _⟩ | ⟨g', cap, cur, hv, hb, hg, hc, hm, hs, ht⟩
  · cases hv
  · injection hv with h1 _ h3
    injection h1 with h1
    injection h1 with h1
    subst h1
    subst h3
    refine .inr ⟨g, c, cur.setIfInBounds j u, rfl, hb, Blk.set_ (t := e) hg j u, hc, hm, by simpa using hs, ?_⟩
    rw [← ht]
    simp only [Array.toList_setIfInBounds, List.take_set]
theorem own_cell {g c : Nat} (h : w.ownsRow base e 1 (.slice (some ⟨g, 0, none⟩) n c) n xs) (j : Nat) (u : Value) (hj : xs[j]? = some u) : w.cell? ⟨g, j, none⟩ = some u ∧ w.frozen? ⟨g, j, none⟩ = false ∧ g < w.heap.size := by
  rcases h.2 with ⟨hv, _⟩ | ⟨g', cap, cur, hv, hb, hg, hc, hm, hs, ht⟩
  · cases hv
  · injection hv with h1 _ h3
    injection h1 with h1
    injection h1 with h1
    subst h1
    refine ⟨?_, Blk.frozen (t := e) hg j, (Array.getElem?_eq_some_iff.1 hg).1⟩
    have hb2 : Blk w g e cur := hg
    rw [hb2.cell j]
    rw [← ht, List.getElem?_take] at hj
    split at hj
    · simpa using hj
    · cases hj
end
theorem u8s_one (l : List Int) : ∀ u ∈ u8s l, u.oneCell' = true := by
  intro u hu
  simp [u8s] at hu
  obtain ⟨x, _, rfl⟩ := hu
  rfl
theorem u8s_length (l : List Int) : (u8s l).length = l.length := by simp [u8s]
theorem u8s_append (a b : List Int) : u8s (a ++ b) = u8s a ++ u8s b := by simp [u8s]
theorem info_u8 : ∃ i, Try.prog.info? 5 = some i ∧ i.zero = some (.int .u8 0) ∧ i.size = 1 ∧ i.bytes = 1 := by
  have h : (Try.prog.info? 5).map (fun i => (i.zero, i.size, i.bytes)) = some (some (.int .u8 0), 1, 1) := by kernel_rfl
  cases hi : Try.prog.info? 5 with
  | none => rw [hi] at h; cases h
  | some i =>
    rw [hi] at h
    simp only [Option.map_some, Option.some.injEq, Prod.mk.injEq] at h
    exact ⟨i, rfl, h.1, h.2.1, h.2.2⟩
/-- A row that a call leaves lies where one lay ahead of it, or is new. -/
def Loc (w : World) (v v1 : Value) : Prop := ∀ b, v1.ownBlock = some b → v.ownBlock = some b ∨ w.heap.size ≤ b
theorem Loc.refl (w : World) (v : Value) : Loc w v v := fun _ h => .inl h
theorem Loc.nil_ (w : World) (v : Value) : Loc w v (.slice none 0 0) := fun _ h => by cases h
theorem Loc.trans {w w1 : World} {v v1 v2 : Value} (h : Loc w v v1) (k : Loc w1 v1 v2) (hs : w.heap.size ≤ w1.heap.size) : Loc w v v2 := fun b hb => by
  rcases k b hb with h1 | h1
  · exact h b h1
  · exact .inr (Nat.le_trans hs h1)
theorem Loc.app {w w1 : World} {v v1 : Value} (h : v1.ownBlock = v.ownBlock ∨ v1.ownBlock = some w1.heap.size) (hs : w.heap.size ≤ w1.heap.size) : Loc w v v1 := fun b hb => by
  rcases h with h | h
  · exact .inl (by rw [← h]; exact hb)
  · rw [h] at hb
    injection hb with hb
    exact .inr (by omega)
/-- What is written: the blocks of N, and what is new. -/
theorem Loc.apart {w : World} {v v1 u : Value} (h : Loc w v v1) (hu : ∀ b, u.ownBlock = some b → v.ownBlock ≠ some b) (hb : ∀ b, u.ownBlock = some b → b < w.heap.size) : ∀ b, u.ownBlock = some b → v1.ownBlock ≠ some b := fun b hub hv => by
  rcases h b hv with h1 | h1
  · exact hu b hub h1
  · have := hb b hub
    omega
end Go.Proofs.Ytpadlcllcmodaaa
