/- The law QueueFlows: what a round does to the two lists and to the queue, and the walk. -/
import Derived.Test.YtgbldgeknmkmmaaQs
import Derived.Deep.LoopGhost
namespace Go.Proofs.Ytgbldgeknmkmmaa
open Go.RowKit
set_option linter.unusedSimpArgs false
set_option linter.unusedVariables false

theorem u8_at {w : World} {A : Option Addr} {l : List Int} (h : Rd w A (l.flatMap fun x => [.int .u8 x])) (k : Nat) (hk : k < l.length) : ∃ g off, A = some ⟨g, off, none⟩ ∧ g < w.heap.size ∧ w.cell? ⟨g, off + k, none⟩ = some (.int .u8 l[k]) := by
  have hf : (l.flatMap fun x => [Value.int .u8 x]) = l.map (Value.int .u8) := by rw [List.map_eq_flatMap]
  rw [hf] at h
  obtain ⟨g, off, hA, hg, hc⟩ := h (by intro he; simp at he; rw [he] at hk; simp at hk)
  exact ⟨g, off, hA, hg, hc k _ (by simp [hk])⟩
theorem own_touch {S : Nat → Prop} {w w' : World} {base : Nat} {e : TypeId} {size n : Nat} {v : Value} {xs : List Value} (h : w.ownsRow base e size v n xs) (k : Touch S w w') (hS : ∀ b, v.ownBlock = some b → ¬ S b) : w'.ownsRow base e size v n xs := by
  refine ⟨h.1, ?_⟩
  rcases h.2 with hn | ⟨g, cap, cur, rfl, hb, hg, rest⟩
  · exact .inl hn
  · exact .inr ⟨g, cap, cur, rfl, hb, (k.block g (Array.getElem?_eq_some_iff.1 hg).1 (hS g rfl)).trans hg, rest⟩
theorem own_type {w : World} {base : Nat} {e : TypeId} {size n b : Nat} {v : Value} {xs : List Value} (h : w.ownsRow base e size v n xs) (hv : v.ownBlock = some b) : ∃ cs, Blk w b e cs := by
  rcases h.2 with ⟨rfl, _⟩ | ⟨g, cap, cur, rfl, _, hg, _⟩
  · simp [Value.ownBlock] at hv
  · simp [Value.ownBlock] at hv
    subst hv
    exact ⟨cur, hg⟩

/-- The lists in and out, and the queue, in the middle of the law. -/
structure FlowR (w wr : World) (g : Nat) (q : Qm) (vi : Value) (li : List Ev) (vo : Value) (lo : List Ev) : Prop where
  hq : IsQN (fun k => vi.ownBlock = some k ∨ vo.ownBlock = some k) wr g q
  hi : wr.ownsRow w.heap.size 32 3 vi li.length (evCells li)
  ho : wr.ownsRow w.heap.size 32 3 vo lo.length (evCells lo)
  ne : ∀ k, vi.ownBlock = some k → vo.ownBlock ≠ some k
  hl : li = lo ++ q.l
  ht : Touch NoS w wr

section
variable {w wr w2 : World} {g : Nat} {q q2 : Qm} {vi vo v2 : Value} {li lo : List Ev}
theorem FlowR.keep (h : FlowR w wr g q vi li vo lo) (k : Touch NoS wr w2) : FlowR w w2 g q vi li vo lo :=
  ⟨h.hq.no k, own_touch h.hi k (fun _ _ h => h), own_touch h.ho k (fun _ _ h => h), h.ne, h.hl, h.ht.trans k⟩
/-- Behind a call on the queue: the rows lie as they did. -/
theorem FlowR.rows (h : FlowR w wr g q vi li vo lo) (k : Touch (At g) wr w2) (hg : w.heap.size ≤ g) :
    w2.ownsRow w.heap.size 32 3 vi li.length (evCells li) ∧ w2.ownsRow w.heap.size 32 3 vo lo.length (evCells lo) ∧ Touch NoS w w2 := by
  obtain ⟨A, c, hb, _⟩ := h.hq
  refine ⟨own_touch h.hi k fun b hv he => ?_, own_touch h.ho k fun b hv he => ?_, h.ht.at_new k hg⟩
  · obtain ⟨cs, hc⟩ := own_type h.hi hv
    exact hc.ne_ hb (by decide) he
  · obtain ⟨cs, hc⟩ := own_type h.ho hv
    exact hc.ne_ hb (by decide) he
theorem FlowR.small (h : FlowR w wr g q vi li vo lo) : ∀ k, (vi.ownBlock = some k ∨ vo.ownBlock = some k) → k < wr.heap.size := by
  rintro k (hk | hk)
  · obtain ⟨cs, hc⟩ := own_type h.hi hk; exact hc.lt
  · obtain ⟨cs, hc⟩ := own_type h.ho hk; exact hc.lt
theorem FlowR.lens (h : FlowR w wr g q vi li vo lo) : li.length = lo.length + q.l.length := by rw [h.hl]; simp

theorem IsQN.grown {N N' : Nat → Prop} {row : Option Nat} (h : IsQN N w g q) (hw : w.grownBy w2 row) (hr : ∀ k, row = some k → N k ∧ ∃ cs, Blk w k 32 cs) (hN : ∀ k, N' k → N k ∨ w.heap.size ≤ k) : IsQN N' w2 g q := by
  obtain ⟨A, c, hb, h1, h2, h3, h4, h5, h6, h7, h8, hav⟩ := h
  refine ⟨A, c, hb.grown hw (fun e => ?_), h1, ?_, h3, h4, h5, h6, h7, h8, ?_⟩
  · obtain ⟨_, cs, hc⟩ := hr g e
    exact hc.ne_ hb (by decide) rfl
  · intro hx
    obtain ⟨g', off, cs, hA, hb', hc⟩ := h2 hx
    refine ⟨g', off, cs, hA, hb'.grown hw (fun e => ?_), hc⟩
    exact hav _ hA (fun h => hx (by rw [h]; rfl)) (hr g' e).1
  · intro a ha hne hn
    rcases hN _ hn with h' | h'
    · exact hav a ha hne h'
    · obtain ⟨g', off, cs, hA, hb', _⟩ := h2 (by rcases hq : q.l with _ | ⟨e, l⟩ <;> simp_all [evCells, Ev.cs])
      rw [hA] at ha
      injection ha with ha
      subst ha
      have := hb'.lt
      exact absurd h' (by simp; omega)

/-- What came in is put behind 'in'. -/
theorem FlowR.into {e : Ev} (hg : w.heap.size ≤ g) (hq : IsQN (fun k => vi.ownBlock = some k ∨ vo.ownBlock = some k) wr g (q.put e)) (hi : wr.ownsRow w.heap.size 32 3 vi li.length (evCells li)) (ho : wr.ownsRow w.heap.size 32 3 vo lo.length (evCells lo))
    (ne : ∀ k, vi.ownBlock = some k → vo.ownBlock ≠ some k) (hl : li = lo ++ q.l) (ht : Touch NoS w wr) (hown : w2.ownsRow w.heap.size 32 3 v2 (li.length + 1) (evCells li ++ e.cs)) (hgr : wr.grownBy w2 vi.ownBlock) (hat : v2.ownBlock = vi.ownBlock ∨ v2.ownBlock = some wr.heap.size) :
    FlowR w w2 g (q.put e) v2 (li ++ [e]) vo lo := by
  have hlt : ∀ k, vo.ownBlock = some k → k < wr.heap.size := fun k hk => by obtain ⟨cs, hc⟩ := own_type ho hk; exact hc.lt
  refine ⟨hq.grown hgr (fun k hk => ⟨.inl hk, own_type hi hk⟩) ?_, by simpa [evCells] using hown, ho.kept hgr ?_, ?_, by rw [hl]; simp [Qm.put], ht.grown hgr ?_⟩
  · rintro k (hk | hk)
    · rcases hat with h | h
      · exact .inl (.inl (h ▸ hk))
      · rw [h] at hk; injection hk with hk; exact .inr (by omega)
    · exact .inl (.inr hk)
  · cases hv : vo.ownBlock with
    | none => exact .inl rfl
    | some k => exact .inr fun h => ne k h.symm hv
  · intro k hk
    rcases hat with h | h
    · exact ne k (h ▸ hk)
    · rw [h] at hk; injection hk with hk; intro h'; have := hlt k h'; omega
  · intro k hk hlt'
    have := (hi.lt k hk).1
    omega
/-- What was taken is put behind 'out'. -/
theorem FlowR.outof {e : Ev} {l : List Ev} (hg : w.heap.size ≤ g) (hq : IsQN (fun k => vi.ownBlock = some k ∨ vo.ownBlock = some k) wr g { q with l := l }) (hi : wr.ownsRow w.heap.size 32 3 vi li.length (evCells li)) (ho : wr.ownsRow w.heap.size 32 3 vo lo.length (evCells lo))
    (ne : ∀ k, vi.ownBlock = some k → vo.ownBlock ≠ some k) (hl : li = lo ++ e :: l) (ht : Touch NoS w wr) (hown : w2.ownsRow w.heap.size 32 3 v2 (lo.length + 1) (evCells lo ++ e.cs)) (hgr : wr.grownBy w2 vo.ownBlock) (hat : v2.ownBlock = vo.ownBlock ∨ v2.ownBlock = some wr.heap.size) :
    FlowR w w2 g { q with l := l } vi li v2 (lo ++ [e]) := by
  have hlt : ∀ k, vi.ownBlock = some k → k < wr.heap.size := fun k hk => by obtain ⟨cs, hc⟩ := own_type hi hk; exact hc.lt
  refine ⟨hq.grown hgr (fun k hk => ⟨.inr hk, own_type ho hk⟩) ?_, hi.kept hgr ?_, by simpa [evCells] using hown, ?_, by rw [hl]; simp, ht.grown hgr ?_⟩
  · rintro k (hk | hk)
    · exact .inl (.inl hk)
    · rcases hat with h | h
      · exact .inl (.inr (h ▸ hk))
      · rw [h] at hk; injection hk with hk; exact .inr (by omega)
  · cases hv : vi.ownBlock with
    | none => exact .inl rfl
    | some k => exact .inr fun h => ne k hv h.symm
  · intro k hk h'
    rcases hat with h | h
    · exact ne k hk (h ▸ h')
    · rw [h] at h'; injection h' with h'; have := hlt k hk; omega
  · intro k hk hlt'
    have := (ho.lt k hk).1
    omega
end
set_option maxHeartbeats 4000000 in
set_option maxRecDepth 100000 in
theorem flows_row (w : World) (n : Int) (hn : (Lit.int .u8 n).wf = true) (m : Int) (hm : (Lit.int .u16 m).wf = true) (A : Option Addr) (l : List Ev) (c : Nat) (hr : Rd w A (evCells l)) (_ : ∀ x ∈ l, x.good) (h1 : l.length ≤ c) (h2 : c ≤ maxLen)
    (T : Option Addr) (tk : List Int) (d : Nat) (hT : Rd w T (tk.flatMap fun x => [.int .u8 x])) (hg8 : ∀ x ∈ tk, (Lit.int .u8 x).wf = true) (h3 : tk.length ≤ d) (h4 : d ≤ maxLen) :
    Calls Try.prog 4 #[.int .u8 n, .int .u16 m, .slice A l.length c, .slice T tk.length d] w fun e w' => e = .returned (.bool true) ∧ Touch NoS w w' := by
  have hlen : l.length ≤ 9223372036854775807 := by unfold maxLen at h2; omega
  have hlen2 : tk.length ≤ 9223372036854775807 := by unfold maxLen at h4; omega
  obtain ⟨bn0, bn1⟩ := bounds_u8 hn
  obtain ⟨bm0, bm1⟩ := bounds_u16 hm
  obtain ⟨i0, hi, hz0, hz1, hz2⟩ := info_parts info_ev
  have HR := Lib.hid hr
  have HTK := Lib.hid hT
  have HG8 := Lib.hid hg8
  clear hr h1 h2 hn hm hT hg8 h3 h4
  go_enter Try.func4, Try.ntmps4
  go_wp2_with fail
  refine (q_new (N := NoS) (1 + n) (1 + m) _ (by omega) (by omega) (by omega) (by omega)).mono ?_
  rintro e w1 ⟨g, rfl, hg, hq1, ht1⟩
  have HT := Lib.hid ht1
  have HQ := Lib.hid hq1
  clear ht1 hq1
  go_wp2_with fail
  refine (q_awake _).mono ?_
  rintro e w2 ⟨rfl, ht2⟩
  have HT2 := Lib.hid (HT.out.trans ht2)
  have HQ2 := Lib.hid (HQ.out.no ht2)
  clear ht2 HT HQ
  by_cases h100 : 100 < l.length
  · go_wp2_with fail
    refine (q_awake _).mono ?_
    rintro e w3 ⟨rfl, ht3⟩
    have HT3 := Lib.hid (HT2.out.trans ht3)
    clear ht3
    go_wp2
    go_ret
    exact ⟨rfl, HT3.out⟩
  have hstart : Hid (FlowR w ((w2.alloc (.cells #[] 32)).alloc (.cells #[] 32)) g ⟨1 + n, 1 + m, []⟩ (.slice (some ⟨w2.heap.size, 0, none⟩) 0 0) [] (.slice (some ⟨w2.heap.size + 1, 0, none⟩) 0 0) []) := by
    have hs := HT2.out.size
    refine ⟨?_, ?_, ?_, ?_, rfl, (HT2.out.alloc _).alloc _⟩
    · obtain ⟨A0, c0, hb, r1, r2, r3, r4, r5, r6, r7, r8, _⟩ := HQ2.out.no ((((Touch.refl _ _).alloc (.cells #[] 32)).alloc (.cells #[] 32)))
      exact ⟨A0, c0, hb, r1, r2, r3, r4, r5, r6, r7, r8, fun _ _ h => absurd rfl h⟩
    · have := (World.ownsRow_made (base := w.heap.size) (e := 32) (size := 3) w2 #[] 0 hs (by simp [maxLen]) rfl).alloc (.cells #[] 32)
      exact this
    · have := World.ownsRow_made (base := w.heap.size) (e := 32) (size := 3) (w2.alloc (.cells #[] 32)) #[] 0 (by simp; omega) (by simp [maxLen]) rfl
      simp at this
      exact this
    · intro k hk; simp [Value.ownBlock] at hk ⊢; omega
  go_wp2_with fail
  go_loopw [11, 12, 13] (fun vi vo i wr => ∃ (k : Nat) (q : Qm) (li lo : List Ev), k ≤ l.length ∧ i = .int .i64 k ∧ li.length ≤ k ∧ FlowR w wr g q vi li vo lo) (fun _ _ i _ => l.length - (intOf i).toNat)
  case atStart => exact ⟨0, _, _, _, by omega, rfl, Nat.le_refl _, hstart.out⟩
  case round =>
    obtain ⟨k, q, li, lo, hk, rfl, hlk, hF⟩ := hrel
    have HF := Lib.hid hF
    clear hF hstart HQ2 HT2
    by_cases hlt : k < l.length
    · obtain ⟨e0, he0⟩ : ∃ e0, e0 = l[k] := ⟨_, rfl⟩
      obtain ⟨ga, off, rfl, hga, c0, c1, c2⟩ := ev_cells (HR.out.touch_no HF.out.ht) k hlt
      rw [← he0] at c0 c1 c2
      have He0 := Lib.hid he0
      clear he0
      by_cases hbig : 300 < e0.data.size
      · go_wp2_with fail
        go_ret
        exact ⟨rfl, HF.out.ht⟩
      · have hlo : lo.length ≤ li.length := by have := HF.out.lens; omega
        by_cases hroom : q.room e0.data.size = true
        · go_wp2_with fail
          refine (q_put_yes g q e0 hroom _ HF.out.hq HF.out.small).mono ?_
          rintro e w4 ⟨rfl, hq4, ht4⟩
          obtain ⟨r1, r2, r3⟩ := HF.out.rows ht4 hg
          have HQ4 := Lib.hid hq4
          have H1 := Lib.hid r1
          have H2 := Lib.hid r2
          have H3 := Lib.hid r3
          have hroom' := Lib.hid hroom
          obtain ⟨hga4, c0, c1, c2⟩ := ev_cells_at (HR.out.touch_no r3) k hlt
          rw [← He0.out] at c0 c1 c2
          have HN : Hid (∀ (W : World) (n : Nat), n = W.heap.size → ∀ j u, e0.cs[j]? = some u → (W.alloc (.cells #[.int .i64 e0.op, .int .i64 e0.code, .string e0.data] 32)).cell? ((⟨n, 0, none⟩ : Addr).add j) = some u) := fun W n hn => new_cells W _ e0.cs _ hn
          have H4 : Hid (∀ u ∈ e0.cs, u.oneCell' = true) := by unfold Hid; have := evCells_one [e0]; simpa [evCells] using this
          have hsz4 := r3.size
          clear hq4 ht4 r1 r2 r3 hroom
          go_wp2_with (at_builtin; refine wpList_app _ rfl (.tmp 66) (.tmp 71) 28 rfl w.heap.size 32 i0 _ 3 32 Try.underlying28 hi hz0 hz1 hz2 rfl (by decide) u11 li.length (evCells li) rfl (H1.out.alloc _) ⟨w4.heap.size, 0, none⟩ 1 1 e0.cs rfl rfl (HN.out _ _ rfl) H4.out (by unfold maxLen; omega) (by omega) (by simp; omega) ?_)
          intro v3 w5 hown hgr hat
          have HF3 : Hid (FlowR w w5 g (q.put e0) v3 (li ++ [e0]) u12 lo) := by
            have hT := (Touch.refl NoS w4).alloc (.cells #[.int .i64 e0.op, .int .i64 e0.code, .string e0.data] 32)
            exact FlowR.into (wr := w4.alloc (.cells #[.int .i64 e0.op, .int .i64 e0.code, .string e0.data] 32)) hg (HQ4.out.no hT) (H1.out.alloc _) (H2.out.alloc _) HF.out.ne HF.out.hl (H3.out.alloc _) hown hgr (by simpa using hat)
          clear hown hgr hat HF HQ4 H1 H2 H3 hlo
          obtain ⟨q3, hq3⟩ : ∃ q3, q3 = q.put e0 := ⟨_, rfl⟩
          obtain ⟨li3, hli3⟩ : ∃ li3, li3 = li ++ [e0] := ⟨_, rfl⟩
          rw [← hq3, ← hli3] at HF3
          have hl3 : li3.length ≤ k + 1 := by rw [hli3]; simp; omega
          clear hq3 hli3
          go_wp2_with fail
          go_loopw [12, 14] (fun vo j wr => ∃ (j0 : Nat) (q : Qm) (lo : List Ev), j0 ≤ 4 ∧ j = .int .i64 j0 ∧ FlowR w wr g q v3 li3 vo lo) (fun _ j _ => 5 - (intOf j).toNat)
          case atStart => exact ⟨0, _, _, by omega, rfl, HF3.out⟩
          case round =>
            obtain ⟨j0, q, lo, hj, rfl, hF⟩ := hrel
            have HF := Lib.hid hF
            clear hF HF3
            by_cases htk : k < tk.length
            · obtain ⟨gt, offt, rfl, hgt, ct⟩ := u8_at (HTK.out.touch_no HF.out.ht) k htk
              obtain ⟨t, ht⟩ : ∃ t, t = tk[k] := ⟨_, rfl⟩
              have ⟨bt0, bt1⟩ := bounds_u8 (HG8.out tk[k] (List.getElem_mem htk))
              rw [← ht] at ct bt0 bt1
              clear ht
              by_cases hjt : (j0 : Int) < t % 4
              · rcases hql : q.l with _ | ⟨e1, l1⟩
                · have HQL := Lib.hid hql
                  clear hql
                  go_wp2_with fail
                  refine (q_take_none g q HQL.out _ HF.out.hq).mono ?_
                  rintro e w6 ⟨rfl, ht6⟩
                  have HF6 := Lib.hid (HF.out.keep ht6)
                  clear ht6 HF
                  unfold Ev.val Ev.zero
                  go_wp2_with fail
                  go_roundw
                  case rel => exact ⟨j0 + 1, _, _, by omega, by go_num, HF6.out.keep ((Touch.refl _ _).alloc _)⟩
                  case measure => simp [intOf]; omega
                · have HQL := Lib.hid hql
                  have hlo2 : lo.length + 1 ≤ li3.length := by have := HF.out.lens; rw [hql] at this; simp at this; omega
                  clear hql
                  go_wp2_with fail
                  refine (q_take_some g q e1 l1 HQL.out _ HF.out.hq).mono ?_
                  rintro e w6 ⟨rfl, hq6, ht6⟩
                  obtain ⟨r1, r2, r3⟩ := HF.out.rows ht6 hg
                  have HQ6 := Lib.hid hq6
                  have K1 := Lib.hid r1
                  have K2 := Lib.hid r2
                  have K3 := Lib.hid r3
                  have hsz6 := r3.size
                  have HN : Hid (∀ (W : World) (n : Nat), n = W.heap.size → ∀ j u, e1.cs[j]? = some u → (W.alloc (.cells #[.int .i64 e1.op, .int .i64 e1.code, .string e1.data] 32)).cell? ((⟨n, 0, none⟩ : Addr).add j) = some u) := fun W n hn => new_cells W _ e1.cs _ hn
                  have H4 : Hid (∀ u ∈ e1.cs, u.oneCell' = true) := by unfold Hid; have := evCells_one [e1]; simpa [evCells] using this
                  clear hq6 ht6 r1 r2 r3
                  unfold Ev.val
                  go_wp2_with (at_builtin; refine wpList_app _ rfl (.tmp 95) (.tmp 97) 28 rfl w.heap.size 32 i0 _ 3 32 Try.underlying28 hi hz0 hz1 hz2 rfl (by decide) u12 lo.length (evCells lo) rfl ((K2.out.alloc _).alloc _) ⟨w6.heap.size + 1, 0, none⟩ 1 1 e1.cs rfl rfl (HN.out _ _ (by simp)) H4.out (by unfold maxLen; omega) (by omega) (by simp; omega) ?_)
                  intro v7 w7 hown hgr hat
                  have HF7 : Hid (FlowR w w7 g { q with l := l1 } v3 li3 v7 (lo ++ [e1])) := by
                    have hT := ((Touch.refl NoS w6).alloc (.cells #[.int .i64 e1.op, .int .i64 e1.code, .string e1.data] 32)).alloc (.cells #[.int .i64 e1.op, .int .i64 e1.code, .string e1.data] 32)
                    exact FlowR.outof (wr := (w6.alloc (.cells #[.int .i64 e1.op, .int .i64 e1.code, .string e1.data] 32)).alloc (.cells #[.int .i64 e1.op, .int .i64 e1.code, .string e1.data] 32)) hg (HQ6.out.no hT) ((K1.out.alloc _).alloc _) ((K2.out.alloc _).alloc _) HF.out.ne (by rw [HF.out.hl, HQL.out]) ((K3.out.alloc _).alloc _) hown hgr (by simpa using hat)
                  clear hown hgr hat HF HQ6 K1 K2 K3
                  go_wp2_with fail
                  go_roundw
                  case rel => exact ⟨j0 + 1, _, _, by omega, by go_num, HF7.out⟩
                  case measure => simp [intOf]; omega
              · go_wp2_with fail
                go_roundw
                case rel => exact ⟨k + 1, _, _, _, by omega, by go_num, hl3, HF.out⟩
                case measure => simp [intOf]; omega
            · go_wp2_with fail
              go_roundw
              case rel => exact ⟨k + 1, _, _, _, by omega, by go_num, hl3, HF.out⟩
              case measure => simp [intOf]; omega
        · have hroom' : q.room e0.data.size = false := by simpa using hroom
          clear hroom
          go_wp2_with fail
          refine (q_put_no g q e0 hroom' _ HF.out.hq).mono ?_
          rintro e w5 ⟨rfl, ht5⟩
          have hF3 := HF.out.keep ht5
          have hl3 : li.length ≤ k + 1 := by omega
          have hga4 := hga
          clear ht5 HF hlo hlk
          generalize u11 = v3 at *
          generalize li = li3 at *
          have HF3 := Lib.hid hF3
          clear hF3 hroom'
          go_wp2_with fail
          go_loopw [12, 14] (fun vo j wr => ∃ (j0 : Nat) (q : Qm) (lo : List Ev), j0 ≤ 4 ∧ j = .int .i64 j0 ∧ FlowR w wr g q v3 li3 vo lo) (fun _ j _ => 5 - (intOf j).toNat)
          case atStart => exact ⟨0, _, _, by omega, rfl, HF3.out⟩
          case round =>
            obtain ⟨j0, q, lo, hj, rfl, hF⟩ := hrel
            have HF := Lib.hid hF
            clear hF HF3
            by_cases htk : k < tk.length
            · obtain ⟨gt, offt, rfl, hgt, ct⟩ := u8_at (HTK.out.touch_no HF.out.ht) k htk
              obtain ⟨t, ht⟩ : ∃ t, t = tk[k] := ⟨_, rfl⟩
              have ⟨bt0, bt1⟩ := bounds_u8 (HG8.out tk[k] (List.getElem_mem htk))
              rw [← ht] at ct bt0 bt1
              clear ht
              by_cases hjt : (j0 : Int) < t % 4
              · rcases hql : q.l with _ | ⟨e1, l1⟩
                · have HQL := Lib.hid hql
                  clear hql
                  go_wp2_with fail
                  refine (q_take_none g q HQL.out _ HF.out.hq).mono ?_
                  rintro e w6 ⟨rfl, ht6⟩
                  have HF6 := Lib.hid (HF.out.keep ht6)
                  clear ht6 HF
                  unfold Ev.val Ev.zero
                  go_wp2_with fail
                  go_roundw
                  case rel => exact ⟨j0 + 1, _, _, by omega, by go_num, HF6.out.keep ((Touch.refl _ _).alloc _)⟩
                  case measure => simp [intOf]; omega
                · have HQL := Lib.hid hql
                  have hlo2 : lo.length + 1 ≤ li3.length := by have := HF.out.lens; rw [hql] at this; simp at this; omega
                  clear hql
                  go_wp2_with fail
                  refine (q_take_some g q e1 l1 HQL.out _ HF.out.hq).mono ?_
                  rintro e w6 ⟨rfl, hq6, ht6⟩
                  obtain ⟨r1, r2, r3⟩ := HF.out.rows ht6 hg
                  have HQ6 := Lib.hid hq6
                  have K1 := Lib.hid r1
                  have K2 := Lib.hid r2
                  have K3 := Lib.hid r3
                  have hsz6 := r3.size
                  have HN : Hid (∀ (W : World) (n : Nat), n = W.heap.size → ∀ j u, e1.cs[j]? = some u → (W.alloc (.cells #[.int .i64 e1.op, .int .i64 e1.code, .string e1.data] 32)).cell? ((⟨n, 0, none⟩ : Addr).add j) = some u) := fun W n hn => new_cells W _ e1.cs _ hn
                  have H4 : Hid (∀ u ∈ e1.cs, u.oneCell' = true) := by unfold Hid; have := evCells_one [e1]; simpa [evCells] using this
                  clear hq6 ht6 r1 r2 r3
                  unfold Ev.val
                  go_wp2_with (at_builtin; refine wpList_app _ rfl (.tmp 95) (.tmp 97) 28 rfl w.heap.size 32 i0 _ 3 32 Try.underlying28 hi hz0 hz1 hz2 rfl (by decide) u12 lo.length (evCells lo) rfl ((K2.out.alloc _).alloc _) ⟨w6.heap.size + 1, 0, none⟩ 1 1 e1.cs rfl rfl (HN.out _ _ (by simp)) H4.out (by unfold maxLen; omega) (by omega) (by simp; omega) ?_)
                  intro v7 w7 hown hgr hat
                  have HF7 : Hid (FlowR w w7 g { q with l := l1 } v3 li3 v7 (lo ++ [e1])) := by
                    have hT := ((Touch.refl NoS w6).alloc (.cells #[.int .i64 e1.op, .int .i64 e1.code, .string e1.data] 32)).alloc (.cells #[.int .i64 e1.op, .int .i64 e1.code, .string e1.data] 32)
                    exact FlowR.outof (wr := (w6.alloc (.cells #[.int .i64 e1.op, .int .i64 e1.code, .string e1.data] 32)).alloc (.cells #[.int .i64 e1.op, .int .i64 e1.code, .string e1.data] 32)) hg (HQ6.out.no hT) ((K1.out.alloc _).alloc _) ((K2.out.alloc _).alloc _) HF.out.ne (by rw [HF.out.hl, HQL.out]) ((K3.out.alloc _).alloc _) hown hgr (by simpa using hat)
                  clear hown hgr hat HF HQ6 K1 K2 K3
                  go_wp2_with fail
                  go_roundw
                  case rel => exact ⟨j0 + 1, _, _, by omega, by go_num, HF7.out⟩
                  case measure => simp [intOf]; omega
              · go_wp2_with fail
                go_roundw
                case rel => exact ⟨k + 1, _, _, _, by omega, by go_num, hl3, HF.out⟩
                case measure => simp [intOf]; omega
            · go_wp2_with fail
              go_roundw
              case rel => exact ⟨k + 1, _, _, _, by omega, by go_num, hl3, HF.out⟩
              case measure => simp [intOf]; omega
    · obtain ⟨w9, hw9⟩ : ∃ w9, w9 = wr := ⟨_, rfl⟩
      subst hw9
      have hl100 : li.length ≤ 100 := by omega
      clear hlk
      go_wp2_with fail
      go_loopg [12] q.l.length (fun j vo wr => ∃ (q : Qm) (lo : List Ev), q.l.length ≤ j ∧ FlowR w wr g q u11 li vo lo)
      case atStart => exact ⟨_, _, Nat.le_refl _, HF.out⟩
      case round =>
        obtain ⟨q, lo, hj, hF⟩ := hrel
        have HF2 := Lib.hid hF
        clear hF HF
        rcases hql : q.l with _ | ⟨e1, l1⟩
        · have hz : q.l.length = 0 := by rw [hql]; rfl
          have hz2 : evSize q.l = 0 := by rw [hql]; rfl
          have hlo : lo = li := by have := HF2.out.hl; rw [hql, List.append_nil] at this; exact this.symm
          have HLO := Lib.hid hlo
          have HZ := Lib.hid hz
          have HZ2 := Lib.hid hz2
          clear hql hz hz2 hlo
          obtain ⟨Ai, ci, hvi⟩ : ∃ Ai ci, u11 = .slice Ai li.length ci := by
            rcases HF2.out.hi.2 with ⟨rfl, h0⟩ | ⟨b, cap, cs, rfl, _⟩
            · exact ⟨none, 0, by rw [h0]⟩
            · exact ⟨_, _, rfl⟩
          obtain ⟨Ao, co, hvo⟩ : ∃ Ao co, u12 = .slice Ao li.length co := by
            rw [← HLO.out]
            rcases HF2.out.ho.2 with ⟨rfl, h0⟩ | ⟨b, cap, cs, rfl, _⟩
            · exact ⟨none, 0, by rw [h0]⟩
            · exact ⟨_, _, rfl⟩
          subst hvi hvo
          have hri : Hid (Rd wr Ai (evCells li)) := (Row.of_own HF2.out.hi).rd
          have hro : Hid (Rd wr Ao (evCells li)) := by have h := HF2.out.ho; rw [HLO.out] at h; exact (Row.of_own h).rd
          go_wp2_with fail
          refine (q_len g q _ HF2.out.hq).mono ?_
          rintro e w6 ⟨rfl, rfl⟩
          rw [HZ.out]
          go_wp2_with fail
          refine (same_true Ai Ao li ci co _ hri.out hro.out (by omega)).mono ?_
          rintro e w6 ⟨rfl, ht6⟩
          have HF6 := Lib.hid (HF2.out.keep ht6)
          clear ht6 HF2
          go_wp2_with fail
          refine (q_size g q _ HF6.out.hq).mono ?_
          rintro e w7 ⟨rfl, rfl⟩
          rw [HZ2.out]
          go_wp2
          go_ret
          exact ⟨rfl, HF6.out.ht⟩
        · have hpos : (0 : Int) < q.l.length := by rw [hql]; simp
          have hl1 : l1.length + 1 ≤ gk := by have h := hj; rw [hql] at h; simpa using h
          have HQL := Lib.hid hql
          have hlo2 : lo.length + 1 ≤ li.length := by have := HF2.out.lens; rw [hql] at this; simp at this; omega
          clear hql
          go_wp2_with fail
          refine (q_len g q _ HF2.out.hq).mono ?_
          rintro e w6 ⟨rfl, rfl⟩
          go_wp2_with fail
          refine (q_take_some g q e1 l1 HQL.out _ HF2.out.hq).mono ?_
          rintro e w6 ⟨rfl, hq6, ht6⟩
          obtain ⟨r1, r2, r3⟩ := HF2.out.rows ht6 hg
          have HQ6 := Lib.hid hq6
          have K1 := Lib.hid r1
          have K2 := Lib.hid r2
          have K3 := Lib.hid r3
          have hsz6 := r3.size
          have HN : Hid (∀ (W : World) (n : Nat), n = W.heap.size → ∀ j u, e1.cs[j]? = some u → (W.alloc (.cells #[.int .i64 e1.op, .int .i64 e1.code, .string e1.data] 32)).cell? ((⟨n, 0, none⟩ : Addr).add j) = some u) := fun W n hn => new_cells W _ e1.cs _ hn
          have H4 : Hid (∀ u ∈ e1.cs, u.oneCell' = true) := by unfold Hid; have := evCells_one [e1]; simpa [evCells] using this
          clear hq6 ht6 r1 r2 r3
          unfold Ev.val
          go_wp2_with (at_builtin; refine wpList_app _ rfl (.tmp 109) (.tmp 111) 28 rfl w.heap.size 32 i0 _ 3 32 Try.underlying28 hi hz0 hz1 hz2 rfl (by decide) u12 lo.length (evCells lo) rfl ((K2.out.alloc _).alloc _) ⟨w6.heap.size + 1, 0, none⟩ 1 1 e1.cs rfl rfl (HN.out _ _ (by simp)) H4.out (by unfold maxLen; omega) (by omega) (by simp; omega) ?_)
          intro v7 w7 hown hgr hat
          have HF7 : Hid (FlowR w w7 g { q with l := l1 } u11 li v7 (lo ++ [e1])) := by
            have hT := ((Touch.refl NoS w6).alloc (.cells #[.int .i64 e1.op, .int .i64 e1.code, .string e1.data] 32)).alloc (.cells #[.int .i64 e1.op, .int .i64 e1.code, .string e1.data] 32)
            exact FlowR.outof (wr := (w6.alloc (.cells #[.int .i64 e1.op, .int .i64 e1.code, .string e1.data] 32)).alloc (.cells #[.int .i64 e1.op, .int .i64 e1.code, .string e1.data] 32)) hg (HQ6.out.no hT) ((K1.out.alloc _).alloc _) ((K2.out.alloc _).alloc _) HF2.out.ne (by rw [HF2.out.hl, HQL.out]) ((K3.out.alloc _).alloc _) hown hgr (by simpa using hat)
          clear hown hgr hat HF2 HQ6 K1 K2 K3
          go_wp2_with fail
          go_roundg l1.length
          case measure => omega
          case rel => exact ⟨_, _, Nat.le_refl _, HF7.out⟩
end Go.Proofs.Ytgbldgeknmkmmaa
