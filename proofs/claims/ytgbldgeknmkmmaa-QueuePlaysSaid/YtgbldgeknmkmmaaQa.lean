/- The queue's small functions: Len, Size, Room, New, first. -/
import Derived.Test.YtgbldgeknmkmmaaProg
import Derived.Test.YtgbldgeknmkmmaaMem
import Derived.KernelRfl
import Derived.BigQuiet
import Derived.Deep.QuietTactic
import Derived.RegionTactic
import Derived.ChangeAlike
import Derived.Deep.RegionLawGrows
import Derived.BigRegion
namespace Go.Proofs.Ytgbldgeknmkmmaa
open Go.RowKit
set_option linter.unusedSimpArgs false
set_option linter.unusedVariables false

structure Ev where
  op : Int
  code : Int
  data : ByteArray
def Ev.zero : Ev := ⟨0, 0, ⟨#[]⟩⟩
def Ev.cs (e : Ev) : List Value := [.int .i64 e.op, .int .i64 e.code, .string e.data]
def Ev.val (e : Ev) : Value := .agg #[.int .i64 e.op, .int .i64 e.code, .string e.data]
def evCells (l : List Ev) : List Value := l.flatMap Ev.cs
def evSize (l : List Ev) : Nat := (l.map fun e => e.data.size).sum

structure Qm where
  count : Int
  bytes : Int
  l : List Ev

/-- The queue at block g: what waits is q.l; its array lies in no block of N. -/
def IsQN (N : Nat → Prop) (w : World) (g : Nat) (q : Qm) : Prop :=
  ∃ A c, Blk w g 74 #[.int .i64 q.count, .int .i64 q.bytes, .slice A q.l.length c, .int .i64 (evSize q.l)] ∧ q.l.length ≤ c ∧ Row w 32 A (evCells q.l) ∧
    q.l.length ≤ 1024 ∧ evSize q.l ≤ 4194304 ∧ 0 ≤ q.count ∧ q.count ≤ 1024 ∧ 0 ≤ q.bytes ∧ q.bytes ≤ 4194304 ∧ ∀ a : Addr, A = some a → q.l ≠ [] → ¬ N a.block
abbrev IsQ := IsQN NoS
variable {N : Nat → Prop}

theorem len_at (g : Nat) (c b : Int) (A : Option Addr) (n cap : Nat) (s : Int) (w : World) (h : Blk w g 74 #[.int .i64 c, .int .i64 b, .slice A n cap, .int .i64 s]) :
    Calls Try.prog 24 #[.pointer (some ⟨g, 0, none⟩)] w fun e w' => e = .returned (.int .i64 n) ∧ w = w' := by
  have h2 := h.cell 2
  simp at h2
  go_enter Try.func24, Try.ntmps24
  go_wp2
  go_ret
  exact ⟨rfl, rfl⟩

theorem size_at (g : Nat) (c b : Int) (A : Option Addr) (n cap : Nat) (s : Int) (w : World) (h : Blk w g 74 #[.int .i64 c, .int .i64 b, .slice A n cap, .int .i64 s]) :
    Calls Try.prog 25 #[.pointer (some ⟨g, 0, none⟩)] w fun e w' => e = .returned (.int .i64 s) ∧ w = w' := by
  have h2 := h.cell 3
  simp at h2
  go_enter Try.func25, Try.ntmps25
  go_wp2
  go_ret
  exact ⟨rfl, rfl⟩

def roomB (c b : Int) (n : Nat) (s x : Int) : Bool := decide ((n : Int) < c) && (decide (0 ≤ x) && decide (x ≤ b - s))

set_option maxHeartbeats 400000 in
theorem room_at (g : Nat) (c b : Int) (A : Option Addr) (n cap : Nat) (s x : Int) (w : World) (h : Blk w g 74 #[.int .i64 c, .int .i64 b, .slice A n cap, .int .i64 s])
    (b0 : 0 ≤ b) (b1 : b ≤ 4194304) (s0 : 0 ≤ s) (s1 : s ≤ 4194304) :
    Calls Try.prog 22 #[.pointer (some ⟨g, 0, none⟩), .int .i64 x] w fun e w' => e = .returned (.bool (roomB c b n s x)) ∧ ∃ k, w' = w.drewN k := by
  have h0 := h.cell 0
  have h1 := h.cell 1
  have h2 := h.cell 2
  have h3 := h.cell 3
  simp at h0 h1 h2 h3
  by_cases t1 : (n : Int) < c
  · by_cases t2 : 0 ≤ x
    · have hr : roomB c b n s x = decide (x ≤ b - s) := by simp [roomB, t1, t2]
      rw [hr]
      clear hr
      go_enter Try.func22, Try.ntmps22
      go_wp2
      go_quiet ((go_at_call 24; refine Calls.quiet_of_same ((len_at g c b A n cap s _ ?_).mono fun _ _ h => ⟨h.1, h.2.symm⟩); exact h))
      go_wp2
      go_ret
      exact ⟨rfl, _, rfl⟩
    · have hr : roomB c b n s x = false := by simp [roomB, t1, t2]
      rw [hr]
      clear hr
      have t2' : decide (0 ≤ x) = false := by simpa using t2
      go_enter Try.func22, Try.ntmps22
      go_wp2
      go_quiet ((go_at_call 24; refine Calls.quiet_of_same ((len_at g c b A n cap s _ ?_).mono fun _ _ h => ⟨h.1, h.2.symm⟩); exact h))
      go_wp2
      go_ret
      exact ⟨rfl, _, rfl⟩
  · have hr : roomB c b n s x = false := by simp [roomB, t1]
    rw [hr]
    clear hr
    have t1' : decide ((n : Int) < c) = false := by simpa using t1
    go_enter Try.func22, Try.ntmps22
    go_wp2
    go_quiet ((go_at_call 24; refine Calls.quiet_of_same ((len_at g c b A n cap s _ ?_).mono fun _ _ h => ⟨h.1, h.2.symm⟩); exact h))
    go_wp2
    go_ret
    exact ⟨rfl, _, rfl⟩

theorem new_bad (c b : Int) (w : World) (h : ¬ (1 ≤ c ∧ c ≤ 1024 ∧ 1 ≤ b ∧ b ≤ 4194304)) :
    Calls Try.prog 15 #[.int .i64 c, .int .i64 b] w fun e w' => e = .returned (.tuple #[.pointer none, .int .i64 140]) ∧ w = w' := by
  by_cases h1 : c < 1
  · go_enter Try.func15, Try.ntmps15
    go_wp2
    go_ret2
    exact ⟨rfl, rfl⟩
  by_cases h2 : 1024 < c
  · go_enter Try.func15, Try.ntmps15
    go_wp2
    go_ret2
    exact ⟨rfl, rfl⟩
  by_cases h3 : b < 1
  · go_enter Try.func15, Try.ntmps15
    go_wp2
    go_ret2
    exact ⟨rfl, rfl⟩
  have h4 : 4194304 < b := by omega
  go_enter Try.func15, Try.ntmps15
  go_wp2
  go_ret2
  exact ⟨rfl, rfl⟩

theorem new_good (c b : Int) (w : World) (h1 : 1 ≤ c) (h2 : c ≤ 1024) (h3 : 1 ≤ b) (h4 : b ≤ 4194304) :
    Calls Try.prog 15 #[.int .i64 c, .int .i64 b] w fun e w' => e = .returned (.tuple #[.pointer (some ⟨w.heap.size, 0, none⟩), .int .i64 0]) ∧ IsQN N w' w.heap.size ⟨c, b, []⟩ ∧ Touch NoS w w' := by
  go_enter Try.func15, Try.ntmps15
  go_wp2
  go_ret2
  exact ⟨rfl, ⟨none, 0, Blk.new _ _ _, by simp, Row.nil_ _ _ _, by simp, by simp [evSize], by simp; omega, h2, by simp; omega, h4, fun a h => by cases h⟩, (Touch.refl _ _).alloc _⟩

theorem first_none (g : Nat) (c b : Int) (A : Option Addr) (cap : Nat) (s : Int) (w : World) (h : Blk w g 74 #[.int .i64 c, .int .i64 b, .slice A 0 cap, .int .i64 s]) :
    Calls Try.prog 39 #[.pointer (some ⟨g, 2, none⟩)] w fun e w' => e = .returned (.tuple #[Ev.zero.val, .bool false]) ∧ Touch NoS w w' := by
  have h2 := h.cell 2
  have hg := h.lt
  simp at h2
  go_enter Try.func39, Try.ntmps39
  go_wp2
  exact bodyPost_ret (v := .tuple #[Ev.zero.val, .bool false]) (by simp [results, Try.results39, go_sem, Ev.val, Ev.zero]) rfl ⟨rfl, ((Touch.refl _ _).alloc _).alloc _⟩

theorem first_some (g : Nat) (c b : Int) (A : Option Addr) (n cap : Nat) (s : Int) (e0 : Ev) (l : List Ev) (w : World) (h : Blk w g 74 #[.int .i64 c, .int .i64 b, .slice A n cap, .int .i64 s])
    (hl : l.length + 1 = n) (hr : Row w 32 A (evCells (e0 :: l))) :
    Calls Try.prog 39 #[.pointer (some ⟨g, 2, none⟩)] w fun e w' => e = .returned (.tuple #[e0.val, .bool true]) ∧ Touch NoS w w' := by
  have h2 := h.cell 2
  have hg := h.lt
  simp at h2
  obtain ⟨g', off, cs, rfl, hb, hc⟩ := hr (by simp [evCells, Ev.cs])
  have c0 := (hb.cell off).trans (hc 0 (.int .i64 e0.op) (by simp [evCells, Ev.cs]))
  have c1 := (hb.cell (off + 1)).trans (hc 1 (.int .i64 e0.code) (by simp [evCells, Ev.cs]))
  have c2 := (hb.cell (off + 2)).trans (hc 2 (.string e0.data) (by simp [evCells, Ev.cs]))
  have hg' := hb.lt
  have hn : ((n : Int) == 0) = false := by simp; omega
  have hn0 : 0 < n := by omega
  clear hc hl
  go_enter Try.func39, Try.ntmps39
  go_wp2
  exact bodyPost_ret (v := .tuple #[e0.val, .bool true]) (by simp [results, Try.results39, go_sem, Ev.val]) rfl ⟨rfl, ((Touch.refl _ _).alloc _).alloc _⟩

theorem info_ev : (Try.prog.info? 32).map (fun i => (i.zero, i.size, i.bytes)) = some (some (.agg #[(.int .i64 0), (.int .i64 0), (.string ⟨#[]⟩)]), 3, 32) := by kernel_rfl

theorem evCells_length (l : List Ev) : (evCells l).length = l.length * 3 := by
  induction l with
  | nil => rfl
  | cons e l ih => simp [evCells, Ev.cs] at ih ⊢; omega
theorem evCells_append (a b : List Ev) : evCells (a ++ b) = evCells a ++ evCells b := by simp [evCells]
theorem evCells_one (l : List Ev) : ∀ u ∈ evCells l, u.oneCell' = true := by
  intro u hu
  simp only [evCells, List.mem_flatMap] at hu
  obtain ⟨e, _, he⟩ := hu
  simp [Ev.cs] at he
  rcases he with rfl | rfl | rfl <;> rfl

theorem push_at (g : Nat) (c b : Int) (A : Option Addr) (cap : Nat) (s : Int) (l : List Ev) (x : Ev) (w : World) (h : Blk w g 74 #[.int .i64 c, .int .i64 b, .slice A l.length cap, .int .i64 s])
    (hlc : l.length ≤ cap) (hl : l.length ≤ 1024) (hr : Row w 32 A (evCells l)) :
    Calls Try.prog 38 #[.pointer (some ⟨g, 2, none⟩), x.val] w fun e w' => e = .returned (.tuple #[]) ∧ Touch (At g) w w' ∧
      ∃ A' c', Blk w' g 74 #[.int .i64 c, .int .i64 b, .slice A' (l ++ [x]).length c', .int .i64 s] ∧ (l ++ [x]).length ≤ c' ∧ Row w' 32 A' (evCells (l ++ [x])) ∧ ∀ a : Addr, A' = some a → w.heap.size ≤ a.block := by
  obtain ⟨i0, hi, hz0, hz1, hz2⟩ := info_parts info_ev
  have h2 := h.cell 2
  have hg := h.lt
  simp at h2
  unfold Ev.val
  go_enter Try.func38, Try.ntmps38
  have H2 : Hid (∀ W, Touch NoS w W → ∀ b, A = some b → ∀ j u, (evCells l)[j]? = some u → W.cell? (b.add j) = some u) := fun W hW => hr.cells hW
  have H3 : Hid (∀ (W : World) (n : Nat), n = W.heap.size → ∀ j u, x.cs[j]? = some u → (W.alloc (.cells #[.int .i64 x.op, .int .i64 x.code, .string x.data] 32)).drew.cell? ((⟨n, 0, none⟩ : Addr).add j) = some u) := fun W n hn => new_cells W _ x.cs _ hn
  have H4 : Hid (∀ u ∈ x.cs, u.oneCell' = true) := by unfold Hid; have := evCells_one [x]; simpa [evCells] using this
  have H5 : Hid (evCells l ++ x.cs = evCells (l ++ [x])) := by simp [Hid, evCells]
  have H1 : Hid (A = none → l.length = 0 ∧ l.length = 0) := by
    intro hA
    have : l.length = 0 := by
      rcases l with _ | ⟨e, l⟩
      · rfl
      · obtain ⟨g', off, cs, h', _⟩ := hr (by simp [evCells, Ev.cs])
        rw [hA] at h'
        cases h'
    exact ⟨this, this⟩
  have HL : Hid (∀ W, Touch NoS w W → Blk W g 74 #[.int .i64 c, .int .i64 b, .slice A l.length cap, .int .i64 s]) := fun W hW => h.touch hW (fun h => h)
  clear h hr
  go_wp2
  go_region_law (first
    | (refine step_append_grows rfl (.tmp 17) (.tmp 19) 28 rfl 32 i0 _ 3 32 Try.underlying28 hi hz0 hz1 hz2 rfl (by decide) A l.length l.length (evCells l) (by simp [Act.eval, Act.put]) H1.out (evCells_length l) (H2.out _ ((((Touch.refl _ _).alloc _).alloc _).drew)) ⟨w.heap.size + 1, 0, none⟩ 1 1 x.cs (by simp [Act.eval, Act.put]) rfl (H3.out _ _ (by simp)) H4.out (by omega) (by unfold maxLen; omega) (by omega) ?_
       intro v' w1 hown hgrow
       obtain ⟨g1, cap1, rfl, hcap, hg1⟩ := own_out hown (by omega)
       have ht : Touch NoS w w1 := (((Touch.refl _ _).alloc _).alloc _).drew.grown hgrow (by intro k hk; cases hk)
       have hbl := HL.out _ ht
       have k2 := hbl.cell 2
       simp at k2
       have f2 := hbl.frozen 2
       have HO := Lib.hid hown
       have HT := Lib.hid ht
       have HB := Lib.hid hbl
       clear hown hgrow ht hbl))
  all_goals
    go_wp2
    go_end0
    refine ⟨rfl, HT.out.of_no.setAt _ _, some ⟨g1, 0, none⟩, cap1, ?_, by simpa using hcap, ?_⟩
    · have := HB.out.set_ 2 (.slice (some ⟨g1, 0, none⟩) (l.length + 1) cap1)
      simpa using this
    · have hro := Row.of_own HO.out
      rw [H5.out] at hro
      exact ⟨hro.touch_at ((Touch.refl (At g) _).setAt _ _) HB.out (by decide), fun a ha => by injection ha with ha; subst ha; simp at hg1; show w.heap.size ≤ g1; omega⟩
end Go.Proofs.Ytgbldgeknmkmmaa
