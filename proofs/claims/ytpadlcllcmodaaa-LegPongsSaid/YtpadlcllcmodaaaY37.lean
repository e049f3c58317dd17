/- close: Code; ref11: Code. -/
import Derived.Test.YtpadlcllcmodaaaY23
/- close: Code; ref11: Code. -/
namespace Go.Proofs.Ytpadlcllcmodaaa
open Go.RowKit
set_option linter.unusedSimpArgs false
set_option linter.unusedVariables false

def i64s (l : List Int) : List Value := l.map (Value.int .i64)
/-- Where the first x of l lies; -1: nowhere. -/
def idx11 (x : Int) (l : List Int) : Int := if x ∈ l then ((l.takeWhile (fun y => y != x)).length : Int) else -1
theorem takeWhile_pre (x : Int) : ∀ (l : List Int) (k : Nat), k < l.length → (∀ j, j < k → l.getD j 0 ≠ x) → l.getD k 0 = x → (l.takeWhile (fun y => y != x)).length = k ∧ x ∈ l := by
  intro l
  induction l with
  | nil => intro k hk; exact absurd hk (by simp)
  | cons a t ih =>
    intro k hk hj hx
    cases k with
    | zero =>
      have ha : a = x := hx
      subst ha
      simp
    | succ k =>
      have ha : a ≠ x := hj 0 (by omega)
      have hne : (a != x) = true := by rw [bne_iff_ne]; exact ha
      obtain ⟨i1, i2⟩ := ih k (by simpa using hk) (fun j h => by have := hj (j + 1) (by omega); simpa using this) (by simpa using hx)
      refine ⟨?_, List.mem_cons_of_mem _ i2⟩
      rw [List.takeWhile_cons, hne]
      simp [i1]
theorem none_pre (x : Int) (l : List Int) (hj : ∀ j, j < l.length → l.getD j 0 ≠ x) : x ∉ l := by
  intro h
  obtain ⟨j, hl, he⟩ := List.getElem_of_mem h
  exact hj j hl (by rw [List.getD_eq_getElem?_getD, List.getElem?_eq_getElem hl]; exact he)

set_option maxHeartbeats 1600000 in
set_option maxRecDepth 100000 in
theorem s_index (A : Option Addr) (l : List Int) (n cap : Nat) (hn : l.length = n) (x : Int) (w : World) (hr : Rd w A (i64s l)) (hl : n ≤ 1000000) :
    Calls Try.prog 102 #[.slice A n cap, .int .i64 x] w fun e w' => e = .returned (.int .i64 (idx11 x l)) ∧ w = w' := by
  have HR := Lib.hid hr
  have HL := Lib.hid hn
  clear hr hn
  go_enter Try.func102, Try.ntmps102
  go_wp2_with fail
  go_loopw [8] (fun i wr => ∃ k : Nat, k ≤ n ∧ i = .int .i64 k ∧ (∀ j, j < k → l.getD j 0 ≠ x) ∧ wr = w) (fun i _ => n - (intOf i).toNat)
  case atStart => exact ⟨0, by omega, rfl, fun j h => by omega, rfl⟩
  case round =>
    obtain ⟨k, hk, rfl, hp, rfl⟩ := hrel
    have HP := Lib.hid hp
    clear hp
    by_cases hlt : k < n
    · obtain ⟨y, hy⟩ : ∃ y, y = l.getD k 0 := ⟨_, rfl⟩
      have hkl : k < l.length := by rw [HL.out]; exact hlt
      obtain ⟨g, off, rfl, hg, hc⟩ := HR.out (by intro h; have := congrArg List.length h; simp [i64s] at this; rw [this] at hkl; simp at hkl)
      have c0 : wr.cell? ⟨g, off + k, none⟩ = some (.int .i64 y) := by
        apply hc
        rw [i64s, List.getElem?_map, List.getElem?_eq_getElem hkl, hy, List.getD_eq_getElem?_getD, List.getElem?_eq_getElem hkl]
        rfl
      have HY := Lib.hid hy
      clear hy hc hkl
      by_cases he : x = y
      · subst he
        go_wp2
        go_ret
        obtain ⟨e1, e2⟩ := takeWhile_pre x l k (by rw [HL.out]; exact hlt) HP.out HY.out.symm
        refine ⟨?_, rfl⟩
        unfold idx11
        rw [if_pos e2, e1]
        rfl
      · have he' : (x == y) = false := by rw [beq_eq_false_iff_ne]; exact he
        have HE := Lib.hid he
        go_wp2
        go_roundw
        · refine ⟨k + 1, by omega, by go_num, fun j h => ?_, by first | trivial | rfl⟩
          by_cases hjk : j = k
          · subst hjk; rw [← HY.out]; exact fun h => HE.out h.symm
          · exact HP.out j (by omega)
        · simp [intOf]; omega
    · have hkn : k = n := by omega
      subst hkn
      go_wp2
      go_ret
      refine ⟨?_, rfl⟩
      unfold idx11
      rw [if_neg (none_pre x l (fun j h => HP.out j (by rw [← HL.out]; exact h)))]
      rfl

set_option maxRecDepth 100000 in
theorem s_contains (A : Option Addr) (l : List Int) (n cap : Nat) (hn : l.length = n) (x : Int) (w : World) (hr : Rd w A (i64s l)) (hl : n ≤ 1000000) :
    Calls Try.prog 94 #[.slice A n cap, .int .i64 x] w fun e w' => e = .returned (.bool (decide (x ∈ l))) ∧ w = w' := by
  have HI := Lib.hid (s_index A l n cap hn x w hr hl)
  by_cases h : x ∈ l
  · rw [decide_eq_true h]
    rw [show idx11 x l = ((l.takeWhile (fun y => y != x)).length : Int) from if_pos h] at HI
    obtain ⟨k, hk⟩ : ∃ k, k = (l.takeWhile (fun y => y != x)).length := ⟨_, rfl⟩
    rw [← hk] at HI
    clear hk hr hn h
    go_enter Try.func94, Try.ntmps94
    go_wp2_with fail
    refine HI.out.mono ?_
    rintro e w1 ⟨rfl, rfl⟩
    go_wp2
    go_ret
    exact ⟨rfl, rfl⟩
  · rw [decide_eq_false h]
    rw [show idx11 x l = -1 from if_neg h] at HI
    clear hr hn h
    go_enter Try.func94, Try.ntmps94
    go_wp2_with fail
    refine HI.out.mono ?_
    rintro e w1 ⟨rfl, rfl⟩
    go_wp2
    go_ret
    exact ⟨rfl, rfl⟩

set_option maxRecDepth 100000 in
theorem c_one (A : Option Addr) (l : List Int) (n cap : Nat) (hn : l.length = n) (x : Int) (w : World) (hr : Rd w A (i64s l)) (hl : n ≤ 1000000) :
    Calls Try.prog 73 #[.int .i64 x, .slice A n cap] w fun e w' => e = .returned (.bool (decide (x ∈ l))) ∧ w = w' := by
  have HI := Lib.hid (s_contains A l n cap hn x w hr hl)
  obtain ⟨b, hb⟩ : ∃ b, b = decide (x ∈ l) := ⟨_, rfl⟩
  rw [← hb] at HI ⊢
  clear hr hn hb
  go_enter Try.func73, Try.ntmps73
  go_wp2_with fail
  refine HI.out.mono ?_
  rintro e w1 ⟨rfl, rfl⟩
  go_wp2
  go_ret
  exact ⟨rfl, rfl⟩

set_option maxRecDepth 100000 in
theorem c_is (A : Option Addr) (l : List Int) (n cap : Nat) (hn : l.length = n) (x : Int) (g : Nat) (w : World) (hr : Rd w A (i64s l)) (hl : n ≤ 1000000) (hb : Blk w g 28 #[.int .i64 x]) :
    Calls Try.prog 72 #[.slice A n cap, .pointer (some ⟨g, 0, none⟩)] w fun e w' => e = .returned (.bool (decide (x ∈ l))) ∧ w = w' := by
  have HI := Lib.hid (c_one A l n cap hn x w hr hl)
  obtain ⟨b, hb'⟩ : ∃ b, b = decide (x ∈ l) := ⟨_, rfl⟩
  rw [← hb'] at HI ⊢
  have b0 := hb.cell 0
  simp at b0
  have hlt := hb.lt
  clear hr hn hb hb'
  go_enter Try.func72, Try.ntmps72
  go_wp2_with fail
  refine HI.out.mono ?_
  rintro e w1 ⟨rfl, rfl⟩
  go_wp2
  go_ret
  exact ⟨rfl, rfl⟩

/-- By which code one ends. -/
def code11 (e : Int) : Int := if e ∈ [0] then 1000 else if e ∈ [91, 100, 110, 120] then 1002 else if e ∈ [111, 122] then 1007 else if e ∈ [92, 121] then 1009 else 1011
theorem code11_valid (e : Int) : valid11 (code11 e) = true := by
  unfold code11
  split
  · decide
  split
  · decide
  split
  · decide
  split
  · decide
  · decide

set_option maxHeartbeats 3200000 in
set_option maxRecDepth 100000 in
theorem c_code (x : Int) (w : World) : Calls Try.prog 52 #[.int .i64 x] w fun e w' => e = .returned (.int .i64 (code11 x)) ∧ Touch NoS w w' := by
  have hmf : ∀ (fn : Fn) (first cap : Array Value) (w : World), (Instr.makeFunc fn first cap).run Try.prog w = .ok (.func fn first cap) w := fun _ _ _ _ => rfl
  have hb0 : Blk (w.alloc (.cells #[.int .i64 x] 28)) w.heap.size 28 #[.int .i64 x] := Blk.new _ _ _
  have ht0 : Touch NoS w (w.alloc (.cells #[.int .i64 x] 28)) := (Touch.refl _ _).alloc _
  have HB := Lib.hid hb0
  have HT := Lib.hid ht0
  clear hb0 ht0
  have HI : Hid (∀ (W : World) (L : List Int) (b : Bool) (n g : Nat), g = W.heap.size → L.length = n → n ≤ 1000 → decide (x ∈ L) = b → Blk W w.heap.size 28 #[.int .i64 x] →
      Calls Try.prog 72 #[.slice (some ⟨g, 0, none⟩) n n, .pointer (some ⟨w.heap.size, 0, none⟩)] (W.alloc (.cells (i64s L).toArray 28)) fun e w' => e = .returned (.bool b) ∧ Blk w' w.heap.size 28 #[.int .i64 x] ∧ Touch NoS W w') := by
    intro W L b n g hg hn h1 hb hk
    subst hb hg
    refine (c_is _ L n n hn x _ _ (Rd.new W (i64s L) 28 (0, 0)) (by omega) (hk.alloc _)).mono ?_
    rintro e w' ⟨rfl, rfl⟩
    exact ⟨rfl, hk.alloc _, (Touch.refl _ _).alloc _⟩
  have hsz : (w.alloc (.cells #[.int .i64 x] 28)).heap.size = w.heap.size + 1 := by simp
  have HSZ := Lib.hid hsz.symm
  clear hsz
  obtain ⟨R, hR⟩ : ∃ R, R = code11 x := ⟨_, rfl⟩
  rw [← hR]
  unfold code11 at hR
  obtain ⟨b0, h0⟩ : ∃ b, b = decide (x ∈ ([0] : List Int)) := ⟨_, rfl⟩
  obtain ⟨b1, h1⟩ : ∃ b, b = decide (x ∈ ([91, 100, 110, 120] : List Int)) := ⟨_, rfl⟩
  obtain ⟨b2, h2⟩ : ∃ b, b = decide (x ∈ ([111, 122] : List Int)) := ⟨_, rfl⟩
  obtain ⟨b3, h3⟩ : ∃ b, b = decide (x ∈ ([92, 121] : List Int)) := ⟨_, rfl⟩
  have hR' : R = if b0 = true then 1000 else if b1 = true then 1002 else if b2 = true then 1007 else if b3 = true then 1009 else 1011 := by
    rw [h0, h1, h2, h3, hR]
    simp only [decide_eq_true_eq]
  have H0 := Lib.hid h0.symm
  have H1 := Lib.hid h1.symm
  have H2 := Lib.hid h2.symm
  have H3 := Lib.hid h3.symm
  have HRR := Lib.hid hR'
  clear hR hR' h0 h1 h2 h3
  go_enter Try.func52, Try.ntmps52
  go_wp2_with fail
  refine (HI.out (w.alloc (.cells #[.int .i64 x] 28)) [0] b0 1 _ HSZ.out rfl (by omega) H0.out HB.out).mono ?_
  rintro e w1 ⟨rfl, hb, ht⟩
  have HB1 := Lib.hid hb
  have HT1 := Lib.hid (HT.out.trans ht)
  clear hb ht HB HT HSZ
  cases b0 with
  | true =>
    have hR := HRR.out
    rw [if_pos rfl] at hR
    subst hR
    go_wp2
    go_ret
    exact ⟨rfl, HT1.out⟩
  | false =>
    go_wp2_with fail
    refine (HI.out w1 [91, 100, 110, 120] b1 4 _ rfl rfl (by omega) H1.out HB1.out).mono ?_
    rintro e w2 ⟨rfl, hb, ht⟩
    have HB2 := Lib.hid hb
    have HT2 := Lib.hid (HT1.out.trans ht)
    clear hb ht HB1 HT1
    cases b1 with
    | true =>
      have hR := HRR.out
      rw [if_neg (by simp), if_pos rfl] at hR
      subst hR
      go_wp2
      go_ret
      exact ⟨rfl, HT2.out⟩
    | false =>
      go_wp2_with fail
      refine (HI.out w2 [111, 122] b2 2 _ rfl rfl (by omega) H2.out HB2.out).mono ?_
      rintro e w3 ⟨rfl, hb, ht⟩
      have HB3 := Lib.hid hb
      have HT3 := Lib.hid (HT2.out.trans ht)
      clear hb ht HB2 HT2
      cases b2 with
      | true =>
        have hR := HRR.out
        rw [if_neg (by simp), if_neg (by simp), if_pos rfl] at hR
        subst hR
        go_wp2
        go_ret
        exact ⟨rfl, HT3.out⟩
      | false =>
        go_wp2_with fail
        refine (HI.out w3 [92, 121] b3 2 _ rfl rfl (by omega) H3.out HB3.out).mono ?_
        rintro e w4 ⟨rfl, hb, ht⟩
        have HT4 := Lib.hid (HT3.out.trans ht)
        clear hb ht HB3 HT3
        cases b3 with
        | true =>
          have hR := HRR.out
          rw [if_neg (by simp), if_neg (by simp), if_neg (by simp), if_pos rfl] at hR
          subst hR
          go_wp2
          go_ret
          exact ⟨rfl, HT4.out⟩
        | false =>
          have hR := HRR.out
          rw [if_neg (by simp), if_neg (by simp), if_neg (by simp), if_neg (by simp)] at hR
          subst hR
          go_wp2
          go_ret
          exact ⟨rfl, HT4.out⟩
end Go.Proofs.Ytpadlcllcmodaaa
