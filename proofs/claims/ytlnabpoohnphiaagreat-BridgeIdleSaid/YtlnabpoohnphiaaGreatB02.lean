/- Rows of the call's own (ownsRow): touched, made, written. | mask: Apply. | mask: number. | mask: Put. | mask: least. -/
import Derived.Test.YtlnabpoohnphiaaGreatB01
import Derived.Laws.BitsAllLaws
import Derived.Laws.MakeOwn
import Derived.Laws.OwnMore
/- Rows of the call's own (ownsRow): touched, made, written. -/
namespace Go.Proofs.YtlnabpoohnphiaaGreat
open Go.RowKit
set_option linter.unusedSimpArgs false
set_option linter.unusedVariables false

section
variable {S : Nat → Prop} {w w' : World} {base : Nat} {e : TypeId} {size n : Nat} {v : Value} {xs : List Value}
theorem own_touch (h : w.ownsRow base e size v n xs) (k : Touch S w w') (hS : ∀ b, v.ownBlock = some b → ¬ S b) : w'.ownsRow base e size v n xs := by
  refine ⟨h.1, ?_⟩
  rcases h.2 with hn | ⟨g, cap, cur, rfl, hb, hg, rest⟩
  · exact .inl hn
  · exact .inr ⟨g, cap, cur, rfl, hb, (k.block g (Array.getElem?_eq_some_iff.1 hg).1 (hS g rfl)).trans hg, rest⟩
theorem own_no (h : w.ownsRow base e size v n xs) (k : Touch NoS w w') : w'.ownsRow base e size v n xs := own_touch h k fun _ _ h => h
theorem own_type {b : Nat} (h : w.ownsRow base e size v n xs) (hv : v.ownBlock = some b) : ∃ cs, Blk w b e cs := by
  rcases h.2 with ⟨rfl, _⟩ | ⟨g, cap, cur, rfl, _, hg, _⟩
  · simp [Value.ownBlock] at hv
  · simp [Value.ownBlock] at hv
    subst hv
    exact ⟨cur, hg⟩
theorem own_base {b : Nat} (h : w.ownsRow base e size v n xs) (hv : v.ownBlock = some b) : base ≤ b := by
  rcases h.2 with ⟨rfl, _⟩ | ⟨g, cap, cur, rfl, hb, hg, _⟩
  · simp [Value.ownBlock] at hv
  · simp [Value.ownBlock] at hv
    omega
theorem own_lower {base' : Nat} (h : w.ownsRow base e size v n xs) (hb : base' ≤ base) : w.ownsRow base' e size v n xs := by
  refine ⟨h.1, ?_⟩
  rcases h.2 with hn | ⟨g, cap, cur, rfl, hg, rest⟩
  · exact .inl hn
  · exact .inr ⟨g, cap, cur, rfl, by omega, rest⟩
theorem own_blk {g : Nat} (h : Blk w g e xs.toArray) (hx : xs.length = n) (hb : base ≤ g) (hn : n ≤ maxLen) : w.ownsRow base e 1 (.slice (some ⟨g, 0, none⟩) n n) n xs :=
  ⟨by omega, .inr ⟨g, n, xs.toArray, rfl, hb, h, Nat.le_refl _, hn, by simp [hx], by simp [← hx]⟩⟩
theorem own_nil (w : World) (base : Nat) (e : TypeId) (size : Nat) : w.ownsRow base e size (.slice none 0 0) 0 [] := ⟨by simp, .inl ⟨rfl, rfl⟩⟩
/-- What a row of the call's own is. -/
theorem own_cases (h : w.ownsRow base e size v n xs) : ∃ A c, v = .slice A n c ∧ n ≤ c ∧ c ≤ maxLen ∧ Rd w A xs ∧ (A = none → n = 0) ∧ ∀ a, A = some a → a.spot = none ∧ a.off = 0 ∧ base ≤ a.block ∧ a.block < w.heap.size := by
  have hr := (Row.of_own (A := none) (c := 0) (w := w) (base := base) (e := e) (size := size) (n := n) (xs := xs))
  rcases h.2 with ⟨rfl, rfl⟩ | ⟨g, cap, cur, rfl, hb, hg, hc, hm, hs, ht⟩
  · have hx : xs = [] := List.eq_nil_of_length_eq_zero (by rw [h.1]; simp)
    subst hx
    exact ⟨none, 0, rfl, Nat.le_refl _, by simp [maxLen], fun h => absurd rfl h, fun _ => rfl, fun a ha => by cases ha⟩
  · exact ⟨_, cap, rfl, hc, hm, (Row.of_own h).rd, fun h => (by cases h), fun a ha => by injection ha with ha; subst ha; exact ⟨rfl, rfl, hb, (Array.getElem?_eq_some_iff.1 hg).1⟩⟩
/-- An element written. -/
theorem own_set {g c : Nat} (h : w.ownsRow base e 1 (.slice (some ⟨g, 0, none⟩) n c) n xs) (j : Nat) (hj : j < n) (u : Value) : (w.setCell ⟨g, j, none⟩ u).ownsRow base e 1 (.slice (some ⟨g, 0, none⟩) n c) n (xs.set j u) := by
  refine ⟨by rw [List.length_set]; exact h.1, ?_⟩
  rcases h.2 with ⟨hv, _⟩ | ⟨g', cap, cur, hv, hb, hg, hc, hm, hs, ht⟩
  · cases hv
  · injection hv with h1 _ h3
    injection h1 with h1
    injection h1 with h1
    subst h1
    subst h3
    refine .inr ⟨g, c, cur.setIfInBounds j u, rfl, hb, Blk.set_ (t := e) hg j u, hc, hm, by simpa using hs, ?_⟩
    rw [← ht]
    simp only [Array.toList_setIfInBounds, List.take_set]
theorem own_cell {g c : Nat} (h : w.ownsRow base e 1 (.slice (some ⟨g, 0, none⟩) n c) n xs) (j : Nat) (u : Value) (hj : xs[j]? = some u) : w.cell? ⟨g, j, none⟩ = some u ∧ w.frozen? ⟨g, j, none⟩ = false ∧ g < w.heap.size := by
  rcases h.2 with ⟨hv, _⟩ | ⟨g', cap, cur, hv, hb, hg, hc, hm, hs, ht⟩
  · cases hv
  · injection hv with h1 _ h3
    injection h1 with h1
    injection h1 with h1
    subst h1
    refine ⟨?_, Blk.frozen (t := e) hg j, (Array.getElem?_eq_some_iff.1 hg).1⟩
    have hb2 : Blk w g e cur := hg
    rw [hb2.cell j]
    rw [← ht, List.getElem?_take] at hj
    split at hj
    · simpa using hj
    · cases hj
end
theorem u8s_one (l : List Int) : ∀ u ∈ u8s l, u.oneCell' = true := by
  intro u hu
  simp [u8s] at hu
  obtain ⟨x, _, rfl⟩ := hu
  rfl
theorem u8s_length (l : List Int) : (u8s l).length = l.length := by simp [u8s]
theorem u8s_append (a b : List Int) : u8s (a ++ b) = u8s a ++ u8s b := by simp [u8s]
theorem info_u8 : ∃ i, Tryz.prog.info? 5 = some i ∧ i.zero = some (.int .u8 0) ∧ i.size = 1 ∧ i.bytes = 1 := by
  have h : (Tryz.prog.info? 5).map (fun i => (i.zero, i.size, i.bytes)) = some (some (.int .u8 0), 1, 1) := by kernel_rfl
  cases hi : Tryz.prog.info? 5 with
  | none => rw [hi] at h; cases h
  | some i =>
    rw [hi] at h
    simp only [Option.map_some, Option.some.injEq, Prod.mk.injEq] at h
    exact ⟨i, rfl, h.1, h.2.1, h.2.2⟩
/-- A row that a call leaves lies where one lay ahead of it, or is new. -/
def Loc (w : World) (v v1 : Value) : Prop := ∀ b, v1.ownBlock = some b → v.ownBlock = some b ∨ w.heap.size ≤ b
theorem Loc.refl (w : World) (v : Value) : Loc w v v := fun _ h => .inl h
theorem Loc.nil_ (w : World) (v : Value) : Loc w v (.slice none 0 0) := fun _ h => by cases h
theorem Loc.trans {w w1 : World} {v v1 v2 : Value} (h : Loc w v v1) (k : Loc w1 v1 v2) (hs : w.heap.size ≤ w1.heap.size) : Loc w v v2 := fun b hb => by
  rcases k b hb with h1 | h1
  · exact h b h1
  · exact .inr (Nat.le_trans hs h1)
theorem Loc.app {w w1 : World} {v v1 : Value} (h : v1.ownBlock = v.ownBlock ∨ v1.ownBlock = some w1.heap.size) (hs : w.heap.size ≤ w1.heap.size) : Loc w v v1 := fun b hb => by
  rcases h with h | h
  · exact .inl (by rw [← h]; exact hb)
  · rw [h] at hb
    injection hb with hb
    exact .inr (by omega)
/-- What is written: the blocks of N, and what is new. -/
theorem Loc.apart {w : World} {v v1 u : Value} (h : Loc w v v1) (hu : ∀ b, u.ownBlock = some b → v.ownBlock ≠ some b) (hb : ∀ b, u.ownBlock = some b → b < w.heap.size) : ∀ b, u.ownBlock = some b → v1.ownBlock ≠ some b := fun b hub hv => by
  rcases h b hv with h1 | h1
  · exact hu b hub h1
  · have := hb b hub
    omega
end Go.Proofs.YtlnabpoohnphiaaGreat
/- mask: Apply. -/
namespace Go.Proofs.YtlnabpoohnphiaaGreat
open Go.RowKit
set_option linter.unusedSimpArgs false
set_option linter.unusedVariables false

def bxor (a b : Int) : Int := ((a.toNat ^^^ b.toNat : Nat) : Int)
theorem bxor_in {a b : Int} (ha : 0 ≤ a ∧ a ≤ 255) (hb : 0 ≤ b ∧ b ≤ 255) : 0 ≤ bxor a b ∧ bxor a b ≤ 255 := by
  have : a.toNat ^^^ b.toNat < 2 ^ 8 := Nat.xor_lt_two_pow (by omega) (by omega)
  unfold bxor
  omega
/-- Bytes as a mask turns them, from place p in it on. -/
def turn (K : List Int) (p : Nat) : List Int → List Int
  | [] => []
  | b :: l => bxor b (K.getD (p % 4) 0) :: turn K (p + 1) l
theorem turn_length (K : List Int) : ∀ (l : List Int) (p : Nat), (turn K p l).length = l.length := by
  intro l
  induction l with
  | nil => intro p; rfl
  | cons b l ih => intro p; simp [turn, ih]
theorem turn_get (K : List Int) : ∀ (l : List Int) (p k : Nat) (hk : k < l.length), (turn K p l)[k]'(by rw [turn_length]; exact hk) = bxor l[k] (K.getD ((p + k) % 4) 0) := by
  intro l
  induction l with
  | nil => intro p k hk; simp at hk
  | cons b l ih =>
    intro p k hk
    cases k with
    | zero => simp [turn]
    | succ k =>
      have := ih (p + 1) k (by simpa using hk)
      simp only [turn, List.getElem_cons_succ]
      rw [this, show p + 1 + k = p + (k + 1) from by omega]
theorem key_in {K : List Int} (hK : bytesIn K) (i : Nat) : 0 ≤ K.getD i 0 ∧ K.getD i 0 ≤ 255 := by
  rw [List.getD_eq_getElem?_getD]
  cases h : K[i]? with
  | none => simp
  | some x => exact hK x (List.mem_of_getElem? h)
theorem turn_in {K : List Int} (hK : bytesIn K) : ∀ (l : List Int) (p : Nat), bytesIn l → bytesIn (turn K p l) := by
  intro l
  induction l with
  | nil => intro p h; exact h
  | cons b l ih =>
    intro p h x hx
    simp only [turn, List.mem_cons] at hx
    rcases hx with rfl | hx
    · exact bxor_in (h b (by simp)) (key_in hK _)
    · exact ih (p + 1) (fun y hy => h y (by simp [hy])) x hx

/-- A row that is filled from its beginning on. -/
def part (vs : List Value) (z : Value) (k : Nat) : Array Value := (vs.take k ++ List.replicate (vs.length - k) z).toArray
theorem part_set (vs : List Value) (z : Value) (k : Nat) (hk : k < vs.length) : (part vs z k).setIfInBounds k vs[k] = part vs z (k + 1) := by
  unfold part
  apply Array.ext'
  simp only [Array.toList_setIfInBounds]
  apply List.ext_getElem
  · simp; omega
  · intro i h1 h2
    rw [List.getElem_set]
    by_cases hi : k = i
    · subst hi
      rw [if_pos rfl, List.getElem_append_left (by simp; omega), List.getElem_take]
    · rw [if_neg hi]
      by_cases hlt : i < k
      · rw [List.getElem_append_left (by simp; omega), List.getElem_append_left (by simp; omega), List.getElem_take, List.getElem_take]
      · rw [List.getElem_append_right (by simp; omega), List.getElem_append_right (by simp; omega), List.getElem_replicate, List.getElem_replicate]
theorem part_zero (vs : List Value) (z : Value) : part vs z 0 = (List.replicate vs.length z).toArray := by simp [part]
theorem part_all (vs : List Value) (z : Value) : part vs z vs.length = vs.toArray := by simp [part]
theorem part_get (vs : List Value) (z : Value) (k : Nat) (hk : k < vs.length) : (part vs z k)[k]? = some z := by
  simp only [part, List.getElem?_toArray]
  rw [List.getElem?_append_right (by simp; omega), List.length_take, show k - min k vs.length = 0 from by omega, List.getElem?_replicate, if_pos (by omega)]

/-- 'make([]byte, n)'. -/
theorem make_u8 (w : World) (n : Nat) (hn : n ≤ 281474976710656) :
    (Instr.makeSlice 43 (.int .i64 n) (.int .i64 n)).run Tryz.prog w = .ok (.slice (some ⟨w.heap.size, 0, none⟩) n n) (w.alloc (.cells (List.replicate n (.int .u8 0)).toArray 5)) := by
  obtain ⟨i, hi, hz, hs, hb⟩ := info_u8
  have := run_make (P := Tryz.prog) w 43 5 i (.int .u8 0) Tryz.underlying43 hi hz .i64 .i64 (n : Int) (n : Int) (by omega) (by omega) (by rw [hb]; omega) (by omega)
  rw [this, hs]
  have e : madeCells (Value.int .u8 0).cells (((n : Int)).toNat * 1) = (List.replicate n (.int .u8 0)).toArray := by
    apply Array.toList_inj.1
    have := toList_madeCells_one (.int .u8 0) n
    simpa [Value.cells] using this
  rw [e]
  simp

set_option maxHeartbeats 1600000 in
set_option maxRecDepth 100000 in
theorem m_apply (k0 k1 k2 k3 : Int) (hK : bytesIn [k0, k1, k2, k3]) (p : Nat) (hp : p ≤ 4611686018427387904) (A : Option Addr) (l : List Int) (cap : Nat) (w : World) (hr : Rd w A (u8s l)) (hb : bytesIn l) (hl : l.length ≤ 281474976710656) :
    Calls Tryz.prog 113 #[.agg #[.int .u8 k0, .int .u8 k1, .int .u8 k2, .int .u8 k3], .int .i64 p, .slice A l.length cap] w fun e w' =>
      ∃ g, e = .returned (.slice (some ⟨g, 0, none⟩) l.length l.length) ∧ w.heap.size ≤ g ∧ Blk w' g 5 (u8s (turn [k0, k1, k2, k3] p l)).toArray ∧ Touch NoS w w' := by
  have HR := Lib.hid hr
  have HB := Lib.hid hb
  have HK := Lib.hid hK
  clear hr hb hK
  have hand : bits .and .i64 (p : Int) 3 = ((p % 4 : Nat) : Int) := by
    have := bits_mask .i64 63 (by decide) (fun n h0 h1 => IntWalk.i64_in n (by omega)) 2 (by omega) (p : Int) (by omega) (by omega)
    simpa using this
  have hmk := fun W => make_u8 W l.length hl
  go_enter Tryz.func113, Tryz.ntmps113
  go_wp2_with fail
  have hvl : (u8s (turn [k0, k1, k2, k3] p l)).length = l.length := by simp [u8s, turn_length]
  obtain ⟨vs, hvs⟩ : ∃ vs, vs = u8s (turn [k0, k1, k2, k3] p l) := ⟨_, rfl⟩
  rw [← hvs] at hvl
  have HV := Lib.hid hvs
  have HVL := Lib.hid hvl
  clear hvs hvl hand hmk
  go_loopw [16] (fun i wr => ∃ k : Nat, k ≤ l.length ∧ i = .int .i64 k ∧ Blk wr w.heap.size 40 #[.int .u8 k0, .int .u8 k1, .int .u8 k2, .int .u8 k3] ∧ Blk wr (w.heap.size + 1) 5 (part vs (.int .u8 0) k) ∧ Touch NoS w wr) (fun i _ => l.length - (intOf i).toNat)
  case atStart =>
    refine ⟨0, by omega, rfl, ?_, ?_, ?_⟩
    · exact (Blk.new _ _ _).alloc _
    · rw [part_zero, HVL.out]
      have := Blk.new (w.alloc (.cells #[.int .u8 k0, .int .u8 k1, .int .u8 k2, .int .u8 k3] 40)) 5 (List.replicate l.length (.int .u8 0)).toArray
      simpa using this
    · exact ((Touch.refl _ _).alloc _).alloc _
  case round =>
    obtain ⟨k, hk, rfl, hkb, hob, ht⟩ := hrel
    by_cases hlt : k < l.length
    · obtain ⟨gA, off, rfl, hgA, ca⟩ := u8s_at (HR.out.touch_no ht) k hlt
      obtain ⟨x, hx⟩ : ∃ x, x = l[k] := ⟨_, rfl⟩
      have hx8 : 0 ≤ x ∧ x ≤ 255 := by rw [hx]; exact HB.out _ (List.getElem_mem hlt)
      obtain ⟨j, hj⟩ : ∃ j, j = (p + k) % 4 := ⟨_, rfl⟩
      have hj4 : j < 4 := by omega
      obtain ⟨y, hy⟩ : ∃ y, y = ([k0, k1, k2, k3] : List Int).getD j 0 := ⟨_, rfl⟩
      have hy8 : 0 ≤ y ∧ y ≤ 255 := by rw [hy]; exact key_in HK.out j
      have hkc : wr.cell? ⟨w.heap.size, j, none⟩ = some (.int .u8 y) := by
        rw [hkb.cell j, hy]
        rcases j with _ | _ | _ | _ | j
        · rfl
        · rfl
        · rfl
        · rfl
        · omega
      have hoc : wr.cell? ⟨w.heap.size + 1, k, none⟩ = some (.int .u8 0) := by
        rw [hob.cell k]
        exact part_get vs _ k (by rw [HVL.out]; exact hlt)
      have hof := hob.frozen k
      have hxor : bits .xor .u8 x y = bxor x y := u8_xor x y hx8.1 (by omega) hy8.1 (by omega)
      have hvk : vs[k]'(by rw [HVL.out]; exact hlt) = .int .u8 (bxor x y) := by
        have e := HV.out
        subst e
        simp only [u8s, List.getElem_map]
        rw [turn_get _ l p k hlt, ← hj, ← hy, ← hx]
      obtain ⟨v, hv⟩ : ∃ v, v = bxor x y := ⟨_, rfl⟩
      rw [← hv] at hxor hvk
      have hw1 : IntKind.i64.wrap ((p : Int) % 4 + k) = (p : Int) % 4 + k := IntWalk.i64_in _ (by omega)
      have hand : bits .and .i64 ((p : Int) % 4 + k) 3 = (j : Int) := by
        have := bits_mask .i64 63 (by decide) (fun n h0 h1 => IntWalk.i64_in n (by omega)) 2 (by omega) ((p : Int) % 4 + k) (by omega) (by omega)
        rw [show ((2 : Int) ^ 2 - 1) = 3 from rfl] at this
        rw [this]
        show ((p : Int) % 4 + k) % 4 = (j : Int)
        omega
      have hlt' : (k : Int) < l.length := by omega
      have hj4' : (j : Int) < 4 := by omega
      rw [← hx] at ca
      have HKB := Lib.hid hkb
      have HOB := Lib.hid hob
      have HT := Lib.hid ht
      have HVK := Lib.hid hvk
      have hl1 : (w.heap.size + 1) < wr.heap.size := hob.lt
      clear hkb hob ht hx hy hj hv hvk hx8 hy8
      go_wp2_with fail
      go_region
      all_goals
        clear hand hxor hw1
        go_wp2_with fail
        go_roundw
        · refine ⟨k + 1, by omega, by go_num, (HKB.out.far (by simp) _).drew, ?_, (HT.out.setNew (by simp) _).drew⟩
          have := (HOB.out.set_ k (.int .u8 v)).drew
          rw [← HVK.out, part_set vs _ k (by rw [HVL.out]; exact hlt)] at this
          rw [← HVK.out]
          exact this
        · simp [intOf]; omega
    · have hkl : k = l.length := by omega
      subst hkl
      rw [← HVL.out, part_all] at hob
      have e := HV.out
      have HOB := Lib.hid hob
      have HT := Lib.hid ht
      clear hob ht hkb
      go_wp2
      go_ret
      exact ⟨_, rfl, by omega, by rw [← HV.out]; exact HOB.out, HT.out⟩
end Go.Proofs.YtlnabpoohnphiaaGreat
/- mask: number. -/
namespace Go.Proofs.YtlnabpoohnphiaaGreat
open Go.RowKit
set_option linter.unusedSimpArgs false
set_option linter.unusedVariables false

/-- A number's lowest m bytes, the highest first. -/
def be (m n : Nat) : List Int := (List.range m).map fun i => ((n / 256 ^ (m - 1 - i) % 256 : Nat) : Int)
theorem be_length (m n : Nat) : (be m n).length = m := by simp [be]
theorem be_in (m n : Nat) : bytesIn (be m n) := by
  intro x hx
  simp [be] at hx
  obtain ⟨i, _, rfl⟩ := hx
  omega
/-- A row that is filled from its end on. -/
def partR (vs : List Value) (z : Value) (k : Nat) : Array Value := (List.replicate (vs.length - k) z ++ vs.drop (vs.length - k)).toArray
theorem partR_set (vs : List Value) (z : Value) (k : Nat) (hk : k < vs.length) : (partR vs z k).setIfInBounds (vs.length - 1 - k) (vs[vs.length - 1 - k]'(by omega)) = partR vs z (k + 1) := by
  unfold partR
  apply Array.ext'
  simp only [Array.toList_setIfInBounds]
  apply List.ext_getElem
  · simp only [List.length_set, List.length_append, List.length_replicate, List.length_drop]; omega
  · intro i h1 h2
    rw [List.getElem_set]
    by_cases hi : vs.length - 1 - k = i
    · subst hi
      rw [if_pos rfl, List.getElem_append_right (by simp; omega), List.getElem_drop]
      congr 1
      try (simp only [List.length_replicate]; omega)
    · rw [if_neg hi]
      by_cases hlt : i < vs.length - (k + 1)
      · rw [List.getElem_append_left (by simp; omega), List.getElem_append_left (by simp; omega), List.getElem_replicate, List.getElem_replicate]
      · simp only [List.length_append, List.length_replicate, List.length_drop, List.length_set] at h1 h2
        rw [List.getElem_append_right (by simp; omega), List.getElem_append_right (by simp; omega), List.getElem_drop, List.getElem_drop]
        congr 1
        simp only [List.length_replicate]
        omega
theorem partR_zero (vs : List Value) (z : Value) : partR vs z 0 = (List.replicate vs.length z).toArray := by simp [partR]
theorem partR_all (vs : List Value) (z : Value) : partR vs z vs.length = vs.toArray := by simp [partR]
theorem partR_get (vs : List Value) (z : Value) (k : Nat) (hk : k < vs.length) : (partR vs z k)[vs.length - 1 - k]? = some z := by
  simp only [partR, List.getElem?_toArray]
  rw [List.getElem?_append_left (by simp; omega), List.getElem?_replicate, if_pos (by omega)]

set_option maxHeartbeats 1600000 in
set_option maxRecDepth 100000 in
theorem m_number (n m : Nat) (hn : n < 18446744073709551616) (hm : m ≤ 8) (w : World) :
    Calls Tryz.prog 133 #[.int .u64 n, .int .i64 m] w fun e w' =>
      ∃ g, e = .returned (.slice (some ⟨g, 0, none⟩) m m) ∧ w.heap.size ≤ g ∧ Blk w' g 5 (u8s (be m n)).toArray ∧ Touch NoS w w' := by
  have hmk := fun W => make_u8 W m (by omega)
  go_enter Tryz.func133, Tryz.ntmps133
  go_wp2_with fail
  have hvl : (u8s (be m n)).length = m := by simp [u8s, be_length]
  obtain ⟨vs, hvs⟩ : ∃ vs, vs = u8s (be m n) := ⟨_, rfl⟩
  rw [← hvs] at hvl
  have HV := Lib.hid hvs
  have HVL := Lib.hid hvl
  clear hvs hvl hmk
  go_loopw [10] (fun i wr => ∃ k : Nat, k ≤ m ∧ i = .int .i64 k ∧ Blk wr w.heap.size 5 (partR vs (.int .u8 0) k) ∧ Touch NoS w wr) (fun i _ => m - (intOf i).toNat)
  case atStart =>
    refine ⟨0, by omega, rfl, ?_, (Touch.refl _ _).alloc _⟩
    rw [partR_zero, HVL.out]
    have := Blk.new w 5 (List.replicate m (.int .u8 0)).toArray
    simpa using this
  case round =>
    obtain ⟨k, hk, rfl, hob, ht⟩ := hrel
    by_cases hlt : k < m
    · have hoc : wr.cell? ⟨w.heap.size, m - 1 - k, none⟩ = some (.int .u8 0) := by
        rw [hob.cell, ← HVL.out]
        exact partR_get vs _ k (by rw [HVL.out]; exact hlt)
      have hof := hob.frozen (m - 1 - k)
      have hlt' : (k : Int) < m := by omega
      have HOB := Lib.hid hob
      have HT := Lib.hid ht
      have hl1 : w.heap.size < wr.heap.size := hob.lt
      clear hob ht
      go_wp2_with fail
      have hvk : vs[vs.length - 1 - k]'(by rw [HVL.out]; omega) = .int .u8 ((n : Int) / 2 ^ (8 * k) % 256) := by
        have e := HV.out
        subst e
        simp only [u8s, be, List.getElem_map, List.getElem_range, List.length_map, List.length_range]
        rw [show m - 1 - (m - 1 - k) = k from by omega, show (256 : Nat) = 2 ^ 8 from rfl, ← Nat.pow_mul]
        simp
      go_roundw
      · refine ⟨k + 1, by omega, by go_num, ?_, HT.out.setNew (by simp) _⟩
        have := HOB.out.set_ (vs.length - 1 - k) (.int .u8 ((n : Int) / 2 ^ (8 * k) % 256))
        have h3 := partR_set vs (.int .u8 0) k (by rw [HVL.out]; exact hlt)
        rw [hvk] at h3
        rw [h3, HVL.out] at this
        exact this
      · simp [intOf]; omega
    · have hkl : k = m := by omega
      subst hkl
      have hob2 : Blk wr w.heap.size 5 vs.toArray := by
        have h2 := partR_all vs (.int .u8 0)
        rw [HVL.out] at h2
        rw [← h2]
        exact hob
      have HOB := Lib.hid hob2
      have HT := Lib.hid ht
      clear hob ht hob2
      go_wp2
      go_ret
      exact ⟨_, rfl, by omega, by rw [← HV.out]; exact HOB.out, HT.out⟩
theorem m_number_ (n m : Nat) (mi : Int) (hmi : (m : Int) = mi) (hn : n < 18446744073709551616) (hm : m ≤ 8) (w : World) :
    Calls Tryz.prog 133 #[.int .u64 n, .int .i64 mi] w fun e w' =>
      ∃ g, e = .returned (.slice (some ⟨g, 0, none⟩) m m) ∧ w.heap.size ≤ g ∧ Blk w' g 5 (u8s (be m n)).toArray ∧ Touch NoS w w' := by
  subst hmi
  exact m_number n m hn hm w
end Go.Proofs.YtlnabpoohnphiaaGreat
/- mask: Put. -/
namespace Go.Proofs.YtlnabpoohnphiaaGreat
open Go.RowKit
set_option linter.unusedSimpArgs false
set_option linter.unusedVariables false

/-- A length's bytes. -/
def lenB (n : Nat) : List Int := if n < 126 then [(n : Int)] else if n < 65536 then 126 :: be 2 n else 127 :: be 8 n
theorem lenB_in (n : Nat) : bytesIn (lenB n) := by
  unfold lenB
  split
  · intro x hx; simp at hx; omega
  split
  · intro x hx; rcases List.mem_cons.1 hx with rfl | hx
    · omega
    · exact be_in _ _ x hx
  · intro x hx; rcases List.mem_cons.1 hx with rfl | hx
    · omega
    · exact be_in _ _ x hx
theorem lenB_length (n : Nat) : (lenB n).length = if n < 126 then 1 else if n < 65536 then 3 else 9 := by
  unfold lenB
  split
  · rfl
  split <;> simp [be_length]

set_option maxHeartbeats 1600000 in
set_option maxRecDepth 100000 in
theorem m_put (n : Nat) (hn : n < 9223372036854775808) (w : World) :
    Calls Tryz.prog 112 #[.int .u64 n] w fun e w' =>
      ∃ v, e = .returned (.tuple #[v, .int .i64 0]) ∧ w'.ownsRow w.heap.size 5 1 v (lenB n).length (u8s (lenB n)) ∧ Touch NoS w w' := by
  by_cases h1 : n < 126
  · have hl : lenB n = [(n : Int)] := by unfold lenB; rw [if_pos h1]
    rw [hl]
    clear hl
    go_enter Tryz.func112, Tryz.ntmps112
    go_wp2
    go_ret2
    exact ⟨_, rfl, own_blk (Blk.new w _ #[.int .u8 n]) rfl (Nat.le_refl _) (by simp [maxLen]), (Touch.refl _ _).alloc _⟩
  by_cases h2 : n < 65536
  · have hl : lenB n = 126 :: be 2 n := by unfold lenB; rw [if_neg h1, if_pos h2]
    rw [hl]
    obtain ⟨x, hx⟩ : ∃ x : Int, x = (n : Int) := ⟨_, rfl⟩
    have g1 : 126 ≤ x := by omega
    have g2 : x < 65536 := by omega
    have hn2 : n < 18446744073709551616 := by omega
    have HX := Lib.hid hx
    have HN := Lib.hid hn2
    rw [← hx]
    clear hl h1 h2 hn hx hn2
    go_enter Tryz.func112, Tryz.ntmps112
    go_wp2_with fail
    rw [HX.out]
    refine (m_number_ n 2 2 (by decide) HN.out (by omega) _).mono ?_
    rintro e w1 ⟨g, rfl, hg, hb, ht⟩
    have H0 : (w.alloc (.cells #[.int .u8 126] 5)).ownsRow w.heap.size 5 1 (.slice (some ⟨w.heap.size, 0, none⟩) 1 1) 1 [.int .u8 126] := own_blk (Blk.new w _ _) rfl (Nat.le_refl _) (by simp [maxLen])
    have H1 := Lib.hid (own_no H0 ht)
    have HB := Lib.hid hb
    have HT := Lib.hid (((Touch.refl NoS w).alloc (.cells #[.int .u8 126] 5)).trans ht)
    clear hb ht H0
    obtain ⟨i, hi, hz0, hz1, hz2⟩ := info_u8
    go_wp2_with (at_builtin; refine wpList_app_row _ rfl (.tmp 16) (.tmp 18) 43 rfl w.heap.size 5 i _ 1 1 Tryz.underlying43 hi hz0 hz1 hz2 rfl (by decide) _ 1 [.int .u8 126] rfl H1.out (some ⟨g, 0, none⟩) 2 2 (u8s (be 2 n)) rfl (by simp [u8s, be_length]) (fun _ => ⟨g, 0, rfl, HB.out.lt, fun j u hu => by rw [Nat.zero_add, HB.out.cell]; simpa using hu⟩) (u8s_one _) (by simp [maxLen]) (by omega) (by have := HT.out.size; omega) ?_)
    intro v' w' ho hgr _
    have HO := Lib.hid ho
    have HT2 := Lib.hid (HT.out.grown hgr (fun k hk hl => by simp [Value.ownBlock] at hk; omega))
    clear ho hgr hi hz0 hz1 hz2
    go_wp2
    go_ret2
    refine ⟨v', rfl, ?_, HT2.out⟩
    have := HO.out
    simpa [be_length, u8s] using this
  · have hl : lenB n = 127 :: be 8 n := by unfold lenB; rw [if_neg h1, if_neg h2]
    rw [hl]
    obtain ⟨x, hx⟩ : ∃ x : Int, x = (n : Int) := ⟨_, rfl⟩
    have g1 : 65536 ≤ x := by omega
    have g2 : x < 9223372036854775808 := by omega
    have hn2 : n < 18446744073709551616 := by omega
    have HX := Lib.hid hx
    have HN := Lib.hid hn2
    rw [← hx]
    clear hl h1 h2 hn hx hn2
    go_enter Tryz.func112, Tryz.ntmps112
    go_wp2_with fail
    rw [HX.out]
    refine (m_number_ n 8 8 (by decide) HN.out (by omega) _).mono ?_
    rintro e w1 ⟨g, rfl, hg, hb, ht⟩
    have H0 : (w.alloc (.cells #[.int .u8 127] 5)).ownsRow w.heap.size 5 1 (.slice (some ⟨w.heap.size, 0, none⟩) 1 1) 1 [.int .u8 127] := own_blk (Blk.new w _ _) rfl (Nat.le_refl _) (by simp [maxLen])
    have H1 := Lib.hid (own_no H0 ht)
    have HB := Lib.hid hb
    have HT := Lib.hid (((Touch.refl NoS w).alloc (.cells #[.int .u8 127] 5)).trans ht)
    clear hb ht H0
    obtain ⟨i, hi, hz0, hz1, hz2⟩ := info_u8
    go_wp2_with (at_builtin; refine wpList_app_row _ rfl (.tmp 20) (.tmp 22) 43 rfl w.heap.size 5 i _ 1 1 Tryz.underlying43 hi hz0 hz1 hz2 rfl (by decide) _ 1 [.int .u8 127] rfl H1.out (some ⟨g, 0, none⟩) 8 8 (u8s (be 8 n)) rfl (by simp [u8s, be_length]) (fun _ => ⟨g, 0, rfl, HB.out.lt, fun j u hu => by rw [Nat.zero_add, HB.out.cell]; simpa using hu⟩) (u8s_one _) (by simp [maxLen]) (by omega) (by have := HT.out.size; omega) ?_)
    intro v' w' ho hgr _
    have HO := Lib.hid ho
    have HT2 := Lib.hid (HT.out.grown hgr (fun k hk hl => by simp [Value.ownBlock] at hk; omega))
    clear ho hgr hi hz0 hz1 hz2
    go_wp2
    go_ret2
    refine ⟨v', rfl, ?_, HT2.out⟩
    have := HO.out
    simpa [be_length, u8s] using this
end Go.Proofs.YtlnabpoohnphiaaGreat
/- mask: least. -/
namespace Go.Proofs.YtlnabpoohnphiaaGreat
open Go.RowKit
set_option linter.unusedSimpArgs false
set_option linter.unusedVariables false

/-- The number that bytes begin, d at each place behind them. -/
def numB (d : Int) (l : List Int) : Nat → Int
  | 0 => 0
  | k + 1 => numB d l k * 256 + l.getD k d
theorem getD_in {l : List Int} (h : bytesIn l) (d : Int) (hd : 0 ≤ d ∧ d ≤ 255) (k : Nat) : 0 ≤ l.getD k d ∧ l.getD k d ≤ 255 := by
  rw [List.getD_eq_getElem?_getD]
  cases hk : l[k]? with
  | none => simpa using hd
  | some x => exact h x (List.mem_of_getElem? hk)
theorem numB_bound {l : List Int} (h : bytesIn l) (d : Int) (hd : 0 ≤ d ∧ d ≤ 255) : ∀ k, 0 ≤ numB d l k ∧ numB d l k < 256 ^ k := by
  intro k
  induction k with
  | zero => simp [numB]
  | succ k ih =>
    have := getD_in h d hd k
    simp only [numB, Int.pow_succ]
    omega

set_option maxHeartbeats 1600000 in
set_option maxRecDepth 100000 in
theorem m_least (A : Option Addr) (l : List Int) (cap : Nat) (m : Nat) (hm : m ≤ 8) (w : World) (hr : Rd w A (u8s l)) (hb : bytesIn l) (hl : l.length ≤ 4611686018427387904) :
    Calls Tryz.prog 150 #[.slice A l.length cap, .int .i64 m] w fun e w' =>
      e = .returned (.tuple #[.int .u64 (numB 0 l m), .int .u64 (numB 255 l m)]) ∧ Touch NoS w w' := by
  have HR := Lib.hid hr
  have HB := Lib.hid hb
  clear hr hb
  go_enter Tryz.func150, Tryz.ntmps150
  go_wp2_with fail
  go_loopw [12, 6, 7] (fun i a b wr => ∃ k : Nat, k ≤ m ∧ i = .int .i64 k ∧ a = .int .u64 (numB 0 l k) ∧ b = .int .u64 (numB 255 l k) ∧ Touch NoS w wr) (fun i _ _ _ => m - (intOf i).toNat)
  case atStart => exact ⟨0, by omega, rfl, rfl, rfl, Touch.refl _ _⟩
  case round =>
    obtain ⟨k, hk, rfl, rfl, rfl, ht⟩ := hrel
    have HT := Lib.hid ht
    clear ht
    by_cases hlt : k < m
    · have b1 := numB_bound HB.out 0 (by omega) k
      have b2 := numB_bound HB.out 255 (by omega) k
      have hp : (256 : Int) ^ k ≤ 72057594037927936 := by
        have : (256 : Nat) ^ k ≤ 256 ^ 7 := Nat.pow_le_pow_right (by omega) (by omega)
        have h2 : ((256 ^ k : Nat) : Int) ≤ ((256 ^ 7 : Nat) : Int) := by exact_mod_cast this
        simpa using h2
      obtain ⟨u, hu⟩ : ∃ u, u = numB 0 l k := ⟨_, rfl⟩
      obtain ⟨v, hv⟩ : ∃ v, v = numB 255 l k := ⟨_, rfl⟩
      rw [← hu] at b1
      rw [← hv] at b2
      rw [← hu, ← hv]
      have c1 : u < 72057594037927936 := by omega
      have c2 : v < 72057594037927936 := by omega
      obtain ⟨c3, _⟩ := b1
      obtain ⟨c4, _⟩ := b2
      have d1 : 0 ≤ l.getD k 0 ∧ l.getD k 0 ≤ 255 := getD_in HB.out 0 (by omega) k
      have d2 : 0 ≤ l.getD k 255 ∧ l.getD k 255 ≤ 255 := getD_in HB.out 255 (by omega) k
      have HU : Hid (numB 0 l (k + 1) = u * 256 + l.getD k 0) := by rw [hu]; rfl
      have HV : Hid (numB 255 l (k + 1) = v * 256 + l.getD k 255) := by rw [hv]; rfl
      obtain ⟨x, hx⟩ : ∃ x, x = l.getD k 0 := ⟨_, rfl⟩
      obtain ⟨y, hy⟩ : ∃ y, y = l.getD k 255 := ⟨_, rfl⟩
      rw [← hx] at d1 HU
      rw [← hy] at d2 HV
      obtain ⟨d3, d4⟩ := d1
      obtain ⟨d5, d6⟩ := d2
      clear hu hv hp
      have s1 : bits .or .u64 (u * 256) x = u * 256 + x := bits_join .u64 64 (by decide) (fun n h0 h1 => IntWalk.u64_in n (by omega)) 8 _ _ (by omega) (by omega) (by omega) (by omega) (by omega) (by omega)
      have s2 : bits .or .u64 (v * 256) y = v * 256 + y := bits_join .u64 64 (by decide) (fun n h0 h1 => IntWalk.u64_in n (by omega)) 8 _ _ (by omega) (by omega) (by omega) (by omega) (by omega) (by omega)
      by_cases hkl : k < l.length
      · obtain ⟨gA, off, rfl, hgA, ca⟩ := u8s_at (HR.out.touch_no HT.out) k hkl
        have e1 : l[k] = x := by rw [hx, List.getD_eq_getElem?_getD, List.getElem?_eq_getElem hkl]; rfl
        have e2 : y = x := by rw [hx, hy, List.getD_eq_getElem?_getD, List.getD_eq_getElem?_getD, List.getElem?_eq_getElem hkl]; rfl
        subst e2
        rw [e1] at ca
        clear hx hy e1
        go_wp2_with fail
        go_quiet (fail)
        go_wp2_with fail
        go_roundw
        · exact ⟨k + 1, by omega, by go_num, by rw [HU.out], by rw [HV.out], HT.out.drewN _⟩
        · simp [intOf]; omega
      · have e1 : x = 0 := by rw [hx, List.getD_eq_getElem?_getD, List.getElem?_eq_none (by omega)]; rfl
        have e2 : y = 255 := by rw [hy, List.getD_eq_getElem?_getD, List.getElem?_eq_none (by omega)]; rfl
        subst e1
        subst e2
        clear hx hy
        go_wp2_with fail
        go_roundw
        · exact ⟨k + 1, by omega, by go_num, by rw [HU.out]; go_num, by rw [HV.out], HT.out⟩
        · simp [intOf]; omega
    · have hkm : k = m := by omega
      subst hkm
      go_wp2
      go_ret2
      exact ⟨rfl, HT.out⟩
theorem m_least_ (A : Option Addr) (l : List Int) (n cap : Nat) (hn : l.length = n) (m : Nat) (mi : Int) (hmi : (m : Int) = mi) (hm : m ≤ 8) (w : World) (hr : Rd w A (u8s l)) (hb : bytesIn l) (hl : l.length ≤ 4611686018427387904) :
    Calls Tryz.prog 150 #[.slice A n cap, .int .i64 mi] w fun e w' =>
      e = .returned (.tuple #[.int .u64 (numB 0 l m), .int .u64 (numB 255 l m)]) ∧ Touch NoS w w' := by
  subst hn
  subst hmi
  exact m_least A l cap m hm w hr hb hl
end Go.Proofs.YtlnabpoohnphiaaGreat
