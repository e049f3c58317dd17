/- cut: Join; ref13: Join. -/
import Derived.Test.YtkhppojlabajaaaZ25
/- cut: Join; ref13: Join. -/
namespace Go.Proofs.Ytkhppojlabajaaa
open Go.RowKit
set_option linter.unusedSimpArgs false
set_option linter.unusedVariables false

/-- Whether the frame i of n may be where it is in a message. -/
def jok (n i : Nat) (f : Fr) : Bool := (if i = 0 then decide (f.op = 1 ∨ f.op = 2) else decide (f.op = 0)) && (f.fin == decide (i + 1 = n))
/-- Whether frames are a message. -/
def joins (l : List Fr) : Prop := l ≠ [] ∧ ∀ i (h : i < l.length), jok l.length i l[i] = true
/-- Frames' data, one behind another. -/
def dlist (l : List Fr) : List UInt8 := l.flatMap fun f => f.data.data.toList
def dstr (l : List Fr) : ByteArray := ⟨(dlist l).toArray⟩
def jop : List Fr → Int
  | [] => 0
  | f :: _ => f.op
theorem dlist_append (a b : List Fr) : dlist (a ++ b) = dlist a ++ dlist b := by simp [dlist]
theorem dlist_take (l : List Fr) (k : Nat) (h : k < l.length) : dlist (l.take (k + 1)) = dlist (l.take k) ++ l[k].data.data.toList := by
  have e : l.take (k + 1) = l.take k ++ [l[k]] := by simp
  rw [e, dlist_append]
  simp [dlist]
theorem dstr_take (l : List Fr) (k : Nat) (h : k < l.length) : dstr (l.take (k + 1)) = dstr (l.take k) ++ l[k].data := by
  unfold dstr
  rw [dlist_take l k h]
  apply ByteArray.ext
  rw [ByteArray.data_append]
  apply Array.ext'
  simp
theorem dlist_size (l : List Fr) (z : Nat) (h : ∀ f ∈ l, f.data.size ≤ z) : (dlist l).length ≤ l.length * z := by
  induction l with
  | nil => simp [dlist]
  | cons f l ih =>
    have h1 := h f (by simp)
    have h2 := ih (fun x hx => h x (by simp [hx]))
    show (f.data.data.toList ++ dlist l).length ≤ (l.length + 1) * z
    rw [List.length_append, Array.length_toList, Nat.succ_mul]
    have h3 : f.data.data.size = f.data.size := rfl
    omega
theorem dstr_size (l : List Fr) : (dstr l).size = (dlist l).length := by
  show (dlist l).toArray.size = _
  simp
theorem jok_first {n : Nat} {f : Fr} (h : jok n 0 f = true) : (f.op = 1 ∨ f.op = 2) ∧ f.fin = decide (0 + 1 = n) := by
  unfold jok at h
  simp at h
  simpa using h
theorem jok_more {n k : Nat} {f : Fr} (h : jok n (k + 1) f = true) : f.op = 0 ∧ f.fin = decide (k + 1 + 1 = n) := by
  unfold jok at h
  simp at h
  simpa using h
theorem bnot_of {a b : Bool} (h : ¬ a = b) : a = !b := by cases a <;> cases b <;> simp_all
theorem jok_bad0 {n : Nat} {f : Fr} (h : jok n 0 f = false) : (f.op ≠ 1 ∧ f.op ≠ 2) ∨ ((f.op = 1 ∨ f.op = 2) ∧ f.fin = !decide (0 + 1 = n)) := by
  unfold jok at h
  simp at h
  by_cases h1 : f.op = 1
  · exact .inr ⟨.inl h1, bnot_of (h (.inl h1))⟩
  by_cases h2 : f.op = 2
  · exact .inr ⟨.inr h2, bnot_of (h (.inr h2))⟩
  exact .inl ⟨h1, h2⟩
theorem jok_bad1 {n k : Nat} {f : Fr} (h : jok n (k + 1) f = false) : f.op ≠ 0 ∨ (f.op = 0 ∧ f.fin = !decide (k + 1 + 1 = n)) := by
  unfold jok at h
  simp at h
  by_cases h1 : f.op = 0
  · exact .inr ⟨h1, bnot_of (h h1)⟩
  exact .inl h1
theorem Bd.drew {w : World} {base B : Nat} {bs : List Value} (h : Bd w base B bs) : Bd w.drew base B bs := by
  obtain ⟨p, v, h1, h2, h3, h4⟩ := h
  exact ⟨p, v, h1, h2.drew, h3, h4⟩
theorem Bd.alloc {w : World} {base B : Nat} {bs : List Value} (h : Bd w base B bs) (o : Obj) : Bd (w.alloc o) base B bs := by
  obtain ⟨p, v, h1, h2, h3, h4⟩ := h
  exact ⟨p, v, h1, h2.alloc o, h3.alloc o, h4⟩
theorem Touch.cell_in {S : Nat → Prop} {w w' : World} {a : Addr} {v : Value} (h : Touch S w w') (hs : ¬ S a.block) (hl : a.block < w.heap.size) (hc : w.cell? a = some v) : w'.cell? a = some v := by
  unfold World.cell? at hc ⊢
  rw [h.block a.block hl hs]
  exact hc

set_option maxHeartbeats 6400000 in
set_option maxRecDepth 100000 in
theorem k_join (A : Option Addr) (l : List Fr) (n c : Nat) (hn : l.length = n) (w : World) (hr : Rd w A (frs l)) (hz : ∀ f ∈ l, f.data.size ≤ 100000) (hl : n ≤ 1000) :
    Calls Try.prog 23 #[.slice A n c] w fun e w' => ((joins l ∧ e = .returned (.tuple #[.int .i64 (jop l), .string (dstr l), .bool true])) ∨ (¬ joins l ∧ e = .returned (.tuple #[.int .i64 0, .string ⟨#[]⟩, .bool false]))) ∧ Touch NoS w w' := by
  have HR := Lib.hid hr
  have HZ := Lib.hid hz
  have HN := Lib.hid hn
  obtain ⟨op, hop'⟩ : ∃ op, op = jop l := ⟨_, rfl⟩
  have HOP := Lib.hid hop'
  rw [← hop']
  clear hr hz hn hop'
  go_enter Try.func23, Try.ntmps23
  go_wp2_with fail
  have hb0 := Blk.new w 77 #[.pointer none, .slice none 0 0]
  obtain ⟨B, hB⟩ : ∃ B, B = w.heap.size := ⟨_, rfl⟩
  have HB0 : Hid (Bd (w.alloc (.cells #[.pointer none, .slice none 0 0] 77)) w.heap.size B []) := ⟨_, _, .inl rfl, hB ▸ hb0, own_nil _ _ _ _, fun _ => rfl⟩
  have HT0 := Lib.hid ((Touch.refl NoS w).alloc (.cells #[.pointer none, .slice none 0 0] 77))
  have HBS := Lib.hid hB
  rw [← hB]
  clear hb0 hB
  go_loopw [11] (fun iv wr => ∃ k : Nat, k ≤ n ∧ iv = .int .i64 k ∧ Hid (∀ i (h : i < l.length), i < k → jok n i l[i] = true) ∧ Bd wr w.heap.size B (Lib.byteCells (dlist (l.take k))) ∧ Touch NoS w wr) (fun iv _ => n - (intOf iv).toNat)
  case atStart => exact ⟨0, by omega, rfl, fun i _ h => absurd h (by omega), HB0.out, HT0.out⟩
  case round =>
    obtain ⟨k, hk, rfl, he, hb, ht⟩ := hrel
    have HE := Lib.hid he.out
    have HB := Lib.hid hb
    have HT := Lib.hid ht
    clear he
    by_cases hlt : k < n
    · have hk1 : k < l.length := by rw [HN.out]; exact hlt
      obtain ⟨g, off, rfl, hg, a0, a1, a2, a3, a4, a5, a6, a7⟩ := fr_cells (HR.out.touch_no ht) k hk1
      have hzi := HZ.out l[k] (List.getElem_mem hk1)
      have b1 : ((k : Int) == (n : Int) - 1) = decide (k + 1 = n) := by
        by_cases h : k + 1 = n
        · rw [decide_eq_true h, beq_iff_eq]; omega
        · rw [decide_eq_false h, beq_eq_false_iff_ne]; omega
      have b2 : IntKind.i64.wrap ((n : Int) - 1) = (n : Int) - 1 := IntWalk.i64_in _ (by omega)
      have hdl := dlist_size (l.take k) 100000 (fun f hf => HZ.out f (List.mem_of_mem_take hf))
      rw [List.length_take, Nat.min_eq_left (by omega)] at hdl
      by_cases hj : jok n k l[k] = true
      · have HNX : Hid (Lib.byteCells (dlist (l.take (k + 1))) = Lib.byteCells (dlist (l.take k)) ++ Lib.strCells l[k].data) := by
          show Lib.byteCells (dlist (l.take (k + 1))) = _
          rw [dlist_take l k hk1, Lib.byteCells_append, Lib.strCells_eq]
        have HWR : Hid (∀ W, Bd W w.heap.size B (Lib.byteCells (dlist (l.take k))) → w.heap.size ≤ W.heap.size → Calls Try.prog 39 #[.pointer (some ⟨B, 0, none⟩), .string l[k].data] W fun e w' => e = .returned (.tuple #[.int .i64 l[k].data.size, .nilIface]) ∧ Bd w' w.heap.size B (Lib.byteCells (dlist (l.take k)) ++ Lib.strCells l[k].data) ∧ Touch (fun k => k = B ∨ w.heap.size ≤ k) W w') :=
          fun W hbW hs => b_write w.heap.size B _ _ (by rw [Lib.byteCells_length]; omega) W hbW hs
        have HE1 : Hid (∀ i (h : i < l.length), i < k + 1 → jok n i l[i] = true) := fun i h hi => by
          by_cases hik : i = k
          · subst hik; exact hj
          · exact HE.out i h (by omega)
        obtain ⟨f, hf⟩ : ∃ f, f = l[k] := ⟨_, rfl⟩
        rw [← hf] at a0 a1 a2 a3 a4 a5 a6 a7 hj HNX HWR hzi
        have hcs : (((k : Int) == 0) = true ∧ f.op = 1 ∧ f.fin = decide (k + 1 = n)) ∨ (((k : Int) == 0) = true ∧ f.op = 2 ∧ f.fin = decide (k + 1 = n)) ∨ (((k : Int) == 0) = false ∧ f.op = 0 ∧ f.fin = decide (k + 1 = n)) := by
          rcases k with _ | q
          · obtain ⟨h1 | h1, h2⟩ := jok_first hj
            · exact .inl ⟨rfl, h1, h2⟩
            · exact .inr (.inl ⟨rfl, h1, h2⟩)
          · obtain ⟨h1, h2⟩ := jok_more hj
            exact .inr (.inr ⟨by rw [beq_eq_false_iff_ne]; omega, h1, h2⟩)
        obtain ⟨fin, o, masked, k0, k1, k2, k3, d⟩ := f
        obtain ⟨b, hb'⟩ : ∃ b, b = decide (k + 1 = n) := ⟨_, rfl⟩
        rw [← hb'] at b1 hcs
        have b3 : (b != b) = false := by cases b <;> rfl
        have HN1 : Hid (HN.out = HN.out) := rfl
        simp only [Fr.cs] at *
        clear ht hb hf hj hk1 hb' HN1 hdl hzi
        rcases hcs with ⟨q0, rfl, rfl⟩ | ⟨q0, rfl, rfl⟩ | ⟨q0, rfl, rfl⟩
        all_goals
          go_wp2_with fail
          refine (HWR.out _ (HB.out.alloc _) (HT.out.alloc _).size).mono ?_
          rintro e w4 ⟨rfl, hb4, ht4⟩
          have HB4 := Lib.hid hb4
          have HT4 : Hid (Touch NoS w w4) := (HT.out.alloc _).then_new ht4 (fun i h => .inl (by rcases h with rfl | h; exact Nat.le_of_eq HBS.out.symm; exact h))
          clear hb4 ht4 HB HT
          go_wp2_with fail
          go_roundw
          · exact ⟨k + 1, by omega, by go_num, HE1, by rw [HNX.out]; exact HB4.out, HT4.out⟩
          · simp [intOf]; omega
      · have hjf : jok n k l[k] = false := by simpa using hj
        have HNJ : Hid (¬ joins l) := fun h => by
          have := h.2 k hk1
          rw [HN.out, hjf] at this
          cases this
        obtain ⟨f, hf⟩ : ∃ f, f = l[k] := ⟨_, rfl⟩
        rw [← hf] at a0 a1 a2 a3 a4 a5 a6 a7 hjf hzi
        have hcs : (((k : Int) == 0) = true ∧ ((f.op == 1) = false ∧ (f.op == 2) = false)) ∨ (((k : Int) == 0) = true ∧ f.op = 1 ∧ f.fin = !decide (k + 1 = n)) ∨ (((k : Int) == 0) = true ∧ f.op = 2 ∧ f.fin = !decide (k + 1 = n)) ∨ (((k : Int) == 0) = false ∧ (f.op != 0) = true) ∨ (((k : Int) == 0) = false ∧ f.op = 0 ∧ f.fin = !decide (k + 1 = n)) := by
          rcases k with _ | q
          · rcases jok_bad0 hjf with ⟨h1, h2⟩ | ⟨h1 | h1, h2⟩
            · exact .inl ⟨rfl, beq_eq_false_iff_ne.2 h1, beq_eq_false_iff_ne.2 h2⟩
            · exact .inr (.inl ⟨rfl, h1, h2⟩)
            · exact .inr (.inr (.inl ⟨rfl, h1, h2⟩))
          · have h0 : (((q + 1 : Nat) : Int) == 0) = false := by rw [beq_eq_false_iff_ne]; omega
            rcases jok_bad1 hjf with h1 | ⟨h1, h2⟩
            · exact .inr (.inr (.inr (.inl ⟨h0, by rw [bne_iff_ne]; exact h1⟩)))
            · exact .inr (.inr (.inr (.inr ⟨h0, h1, h2⟩)))
        obtain ⟨fin, o, masked, k0, k1, k2, k3, d⟩ := f
        obtain ⟨b, hb'⟩ : ∃ b, b = decide (k + 1 = n) := ⟨_, rfl⟩
        rw [← hb'] at b1 hcs
        simp only [Fr.cs] at *
        clear ht hb hf hj hjf hk1 hb' hdl hzi
        rcases hcs with ⟨q0, q1, q2⟩ | ⟨q0, rfl, rfl⟩ | ⟨q0, rfl, rfl⟩ | ⟨q0, q1⟩ | ⟨q0, rfl, rfl⟩
        all_goals
          cases b
        all_goals
          try simp only [Bool.not_true, Bool.not_false] at a0
          go_wp2
          refine bodyPost_ret (v := .tuple #[.int .i64 0, .string ⟨#[]⟩, .bool false]) (by simp [results, Try.results23, go_sem]) rfl ⟨.inr ⟨HNJ.out, rfl⟩, HT.out.alloc _⟩
    · have hkn : k = n := by omega
      subst hkn
      have htk : l.take k = l := List.take_of_length_le (by rw [HN.out]; exact Nat.le_refl _)
      rw [htk] at hb
      have hdl := dlist_size l 100000 HZ.out
      rw [HN.out] at hdl
      by_cases hk0 : k = 0
      · subst hk0
        have hnil : l = [] := List.eq_nil_of_length_eq_zero HN.out
        have HNJ : Hid (¬ joins l) := fun h => h.1 hnil
        clear ht hb hnil hdl
        go_wp2
        refine bodyPost_ret (v := .tuple #[.int .i64 0, .string ⟨#[]⟩, .bool false]) (by simp [results, Try.results23, go_sem]) rfl ⟨.inr ⟨HNJ.out, rfl⟩, HT.out⟩
      · have h0 : 0 < l.length := by rw [HN.out]; omega
        have HJ : Hid (joins l) := ⟨fun h => by rw [h] at h0; simp at h0, fun i hi => by rw [HN.out]; exact HE.out i hi (by rw [← HN.out]; exact hi)⟩
        have HB' := Lib.hid hb
        have HST : Hid (∀ W, Bd W w.heap.size B (Lib.byteCells (dlist l)) → Calls Try.prog 40 #[.pointer (some ⟨B, 0, none⟩)] W fun e w' => e = .returned (.string (dstr l)) ∧ Touch (fun k => w.heap.size ≤ k) W w') := fun W hbW => b_string w.heap.size B (dlist l) W hbW (by omega)
        obtain ⟨g0, off0, rfl, hg0, _, c1, _⟩ := fr_cells HR.out 0 h0
        have hop : l[0].op = jop l := by
          cases l with
          | nil => simp at h0
          | cons f r => rfl
        rw [hop, ← HOP.out] at c1
        simp only [Nat.zero_mul, Nat.add_zero] at c1
        have a1 := ht.cell c1
        have hgr : g0 < wr.heap.size := Nat.lt_of_lt_of_le hg0 ht.size
        have hk1 : 0 < k := by omega
        clear hb ht hop hdl hk0 HB c1
        go_wp2_with fail
        go_region_with ((go_at_call 40; refine (HST.out _ HB'.out.drew).mono ?_; rintro e w5 ⟨rfl, ht5⟩; have a1 := ht5.cell_in (Nat.not_le_of_lt hg0) hgr (show wr.drew.cell? ⟨g0, off0 + 1, none⟩ = _ from a1)))
        all_goals
          have HT5 := Lib.hid (HT.out.drew.then_new ht5 (fun i h => .inl h) : Touch NoS w w5)
          clear ht5
          simp [Act.put]
          go_wp2
          refine bodyPost_ret (v := .tuple #[.int .i64 op, .string (dstr l), .bool true]) (by simp [results, Try.results23, go_sem]) rfl ⟨.inl ⟨HJ.out, rfl⟩, HT5.out⟩
end Go.Proofs.Ytkhppojlabajaaa
