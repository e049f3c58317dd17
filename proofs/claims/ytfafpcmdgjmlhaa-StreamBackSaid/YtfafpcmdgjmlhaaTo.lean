/- law10: StreamBack: the walk. -/
import Derived.Test.YtfafpcmdgjmlhaaTm
namespace Go.Proofs.Ytfafpcmdgjmlhaa
open Go.RowKit
set_option linter.unusedSimpArgs false
set_option linter.unusedVariables false

/-- append where the operation's guard says yes. -/
theorem wpList_app_want {P : Program} (w : World) {ops : Array Oper} {rest : List Oper} {o : Oper} {a : Act} {Q : Exit → Act → World → Prop} (hgd : Region.wanted o (yielded ops a.tmps) = true) (s x : Operand) (t : TypeId)
    (ho : o.op = .call { callee := .builtin .append, args := #[s, x], argTypes := #[t, t] })
    (base : Nat) (e : TypeId) (i : TypeInfo) (z : Value) (size bytes : Nat) (ht : P.underlying t = some (.slice e)) (hi : P.info? e = some i) (hz : i.zero = some z)
    (hsize : i.size = size) (hby : i.bytes = bytes) (hzs : z.cells.size = size) (hsz : 0 < size)
    (v : Value) (n : Nat) (xs : List Value) (hs : a.eval s = v) (hown : w.ownsRow base e size v n xs)
    (A : Option Addr) (m c : Nat) (news : List Value) (hx : a.eval x = .slice A m c) (hl : news.length = m * size) (hr : Rd w A news) (h1 : ∀ u ∈ news, u.oneCell' = true)
    (h63 : n + m ≤ maxLen) (hbytes : (n + m) * bytes ≤ 140737488355328) (hbase : base ≤ w.heap.size)
    (h : ∀ v' w', w'.ownsRow base e size v' (n + m) (xs ++ news) → w.grownBy w' v.ownBlock → (v'.ownBlock = v.ownBlock ∨ v'.ownBlock = some w.heap.size) → wpList P ops Q rest (a.put o.dst v') w') : wpList P ops Q (o :: rest) a w :=
  BigFrame.wpList_want hgd fun K hK => wp_app_row w s x t ho base e i z size bytes ht hi hz hsize hby hzs hsz v n xs hs hown A m c news hx hl hr h1 h63 hbytes hbase fun v' w' h2 h3 h4 => hK _ _ (h v' w' h2 h3 h4)

/-- Frames that the law speaks of. -/
def fine (mk : Bool) (f : Fr) : Prop := f.good ∧ form9 f = true ∧ f.data.size ≤ 500 ∧ f.masked = mk
theorem fput_514 {mk : Bool} {f : Fr} (h : fine mk f) : (fput f).length ≤ 514 := by
  rw [fput_length]
  have := size9_le f
  have := h.2.2.1
  omega
def texts (l : List Fr) : List Int := l.flatMap fput
theorem texts_len (mk : Bool) : ∀ (l : List Fr), (∀ f ∈ l, fine mk f) → (texts l).length ≤ 514 * l.length := by
  intro l
  induction l with
  | nil => intro _; exact Nat.le_refl _
  | cons f l ih =>
    intro h
    have h1 := fput_514 (h f (by simp))
    have h2 := ih (fun x hx => h x (by simp [hx]))
    show (fput f ++ texts l).length ≤ 514 * (l.length + 1)
    rw [List.length_append]
    omega
theorem texts_in (mk : Bool) : ∀ (l : List Fr), (∀ f ∈ l, fine mk f) → bytesIn (texts l) := by
  intro l
  induction l with
  | nil => intro _ x hx; cases hx
  | cons f l ih =>
    intro h x hx
    have hf := h f (by simp)
    rcases List.mem_append.1 (show x ∈ fput f ++ texts l from hx) with h1 | h1
    · exact fput_bytes hf.1 hf.2.1 x h1
    · exact ih (fun x hx => h x (by simp [hx])) x h1
theorem scan_texts (mk : Bool) : ∀ (l : List Fr), (∀ f ∈ l, fine mk f) → l.length ≤ 20 → scan mk 65536 (texts l) = (l, [], 0) := by
  intro l
  induction l with
  | nil => intro _ _; rfl
  | cons f l ih =>
    intro h hl
    have hf := h f (by simp)
    have hr : ∀ x ∈ l, fine mk x := fun x hx => h x (by simp [hx])
    have hz := texts_len mk l hr
    have h5 := fput_514 hf
    simp only [List.length_cons] at hl
    have hd := hf.2.2.1
    show scan mk 65536 (fput f ++ texts l) = _
    rw [scan_fput mk 65536 f hf.1 hf.2.1 hf.2.2.2 (by omega) (texts l) (texts_in mk l hr) (by rw [List.length_append]; unfold maxLen; omega), ih hr (by omega)]
theorem texts_take (l : List Fr) (k : Nat) (h : k < l.length) : texts (l.take (k + 1)) = texts (l.take k) ++ fput l[k] := by
  have e : l.take (k + 1) = l.take k ++ [l[k]] := by simp
  rw [e]
  unfold texts
  rw [List.flatMap_append]
  simp

set_option maxHeartbeats 3200000 in
set_option maxRecDepth 100000 in
theorem r10_text (A : Option Addr) (l : List Fr) (n c : Nat) (hn : l.length = n) (w : World) (ha : Rd w A (frs l)) (mk : Bool) (hf : ∀ f ∈ l, fine mk f) (hl : n ≤ 20) :
    Calls Try.prog 31 #[.slice A n c] w fun e w' => e = .returned (.string (Go.strOfNums (texts l))) ∧ Touch NoS w w' := by
  have HA := Lib.hid ha
  have HN := Lib.hid hn
  have HF := Lib.hid hf
  clear ha hn hf
  go_enter Try.func31, Try.ntmps31
  go_wp2_with fail
  go_loopw [3, 4] (fun sv i wr => ∃ k : Nat, k ≤ n ∧ i = .int .i64 k ∧ sv = .string (Go.strOfNums (texts (l.take k))) ∧ Touch NoS w wr) (fun _ i _ => n - (intOf i).toNat)
  case atStart => exact ⟨0, by omega, rfl, rfl, Touch.refl _ _⟩
  case round =>
    obtain ⟨k, hk, rfl, rfl, ht⟩ := hrel
    have HT := Lib.hid ht
    by_cases hlt : k < n
    · have hk1 : k < l.length := by rw [HN.out]; exact hlt
      obtain ⟨g, off, rfl, hg, a0, a1, a2, a3, a4, a5, a6, a7⟩ := fr_cells (HA.out.touch_no ht) k hk1
      have hfi := HF.out l[k] (List.getElem_mem hk1)
      have htt := texts_take l k hk1
      have hlen := texts_len mk (l.take k) (fun x hx => HF.out x (List.mem_of_mem_take hx))
      have hlk : (l.take k).length ≤ 20 := by rw [List.length_take]; omega
      have h514 := fput_514 hfi
      obtain ⟨f, hf⟩ : ∃ f, f = l[k] := ⟨_, rfl⟩
      rw [← hf] at a0 a1 a2 a3 a4 a5 a6 a7 hfi htt h514
      have hdz : f.data.size ≤ 1000000 := by have := hfi.2.2.1; omega
      have HTX := Lib.hid (fun W => r9_text f hfi.1 hfi.2.1 hdz W)
      obtain ⟨D, hD⟩ : ∃ D, D = Go.strOfNums (fput f) := ⟨_, rfl⟩
      obtain ⟨E, hE⟩ : ∃ E, E = Go.strOfNums (texts (l.take k)) := ⟨_, rfl⟩
      have hDz : D.size ≤ 514 := by rw [hD, numsB_size]; exact h514
      have hEz : E.size ≤ 10280 := by rw [hE, numsB_size]; omega
      have hnext : Go.strOfNums (texts (l.take (k + 1))) = E ++ D := by rw [htt, nums_append, hE, hD]
      have HNX := Lib.hid hnext
      rw [← hD] at HTX
      rw [← hE]
      obtain ⟨fin, op, masked, k0, k1, k2, k3, d⟩ := f
      simp only [Fr.cs] at *
      clear ht hfi htt hlen hlk h514 hf hdz hD hE hnext hk1
      go_wp2_with fail
      refine (HTX.out _).mono ?_
      rintro e w4 ⟨rfl, ht⟩
      have HT4 := Lib.hid (HT.out.trans ht)
      clear ht HT
      go_wp2_with fail
      go_roundw
      · exact ⟨k + 1, by omega, by go_num, by rw [HNX.out], HT4.out⟩
      · simp [intOf]; omega
    · have hkn : k = n := by omega
      subst hkn
      rw [List.take_of_length_le (by rw [HN.out]; exact Nat.le_refl _)]
      clear ht
      go_wp2
      go_ret
      exact ⟨rfl, HT.out⟩

theorem u8_at {w : World} {A : Option Addr} {l : List Int} (h : Rd w A (l.flatMap fun x => [.int .u8 x])) (k : Nat) (hk : k < l.length) : ∃ g off, A = some ⟨g, off, none⟩ ∧ g < w.heap.size ∧ w.cell? ⟨g, off + k, none⟩ = some (.int .u8 l[k]) := by
  have hf : (l.flatMap fun x => [Value.int .u8 x]) = l.map (Value.int .u8) := by rw [List.map_eq_flatMap]
  rw [hf] at h
  obtain ⟨g, off, hA, hg, hc⟩ := h (by intro he; simp at he; rw [he] at hk; simp at hk)
  exact ⟨g, off, hA, hg, hc k _ (by simp [hk])⟩
theorem scan_split (mk : Bool) (most : Int) (a b c : List Int) (gs : List Fr) (hb : bytesIn (a ++ b ++ c)) (hl : (a ++ b ++ c).length ≤ maxLen) (h : scan mk most (a ++ b ++ c) = (gs, [], 0)) :
    ∃ fs2 part2 gs2, scan mk most (a ++ b) = (fs2, part2, 0) ∧ scan mk most (part2 ++ c) = (gs2, [], 0) ∧ fs2 ++ gs2 = gs := by
  obtain ⟨fs2, part2, e2, h1⟩ : ∃ fs2 part2 e2, scan mk most (a ++ b) = (fs2, part2, e2) := ⟨_, _, _, rfl⟩
  have hs := scan_append mk most (a ++ b).length (a ++ b) c (Nat.le_refl _) hb hl
  rw [h1, h] at hs
  simp only at hs
  by_cases he : e2 = 0
  · subst he
    obtain ⟨g2, p2, e3, h3⟩ : ∃ g2 p2 e3, scan mk most (part2 ++ c) = (g2, p2, e3) := ⟨_, _, _, rfl⟩
    have h4 := hs.1 rfl
    rw [h3] at h4
    simp only at h4
    injection h4 with h5 h6
    injection h6 with h7 h8
    subst h7 h8
    exact ⟨fs2, part2, g2, h1, h3, h5.symm⟩
  · have h4 := hs.2 he
    injection h4 with h5 h6
    injection h6 with h7 h8
    exact absurd h8.symm he

set_option maxHeartbeats 12800000 in
set_option maxRecDepth 100000 in
theorem back10_row (w : World) (mk : Bool) (A : Option Addr) (ls : List Fr) (c : Nat) (hr : Rd w A (ls.flatMap Fr.cl)) (hg : ∀ x ∈ ls, x.good) (hlc : ls.length ≤ c) (hcc : c ≤ maxLen)
    (B : Option Addr) (cu : List Int) (c' : Nat) (hr' : Rd w B (cu.flatMap fun x => [.int .u8 x])) (hg' : ∀ x ∈ cu, (Lit.int .u8 x).wf = true) (hlc' : cu.length ≤ c') (hcc' : c' ≤ maxLen) :
    Calls Try.prog 5 #[.bool mk, .slice A ls.length c, .slice B cu.length c'] w fun e w' => e = .returned (.bool true) ∧ Touch NoS w w' := by
  have HR : Hid (Rd w A (frs ls)) := hr
  have HG := Lib.hid hg
  have HR' := Lib.hid hr'
  have HG' := Lib.hid hg'
  obtain ⟨n, hn⟩ : ∃ n, n = ls.length := ⟨_, rfl⟩
  obtain ⟨m, hm⟩ : ∃ m, m = cu.length := ⟨_, rfl⟩
  rw [← hn] at hlc ⊢
  rw [← hm] at hlc' ⊢
  have HN := Lib.hid hn.symm
  have HMC := Lib.hid hm.symm
  have hnm : n ≤ maxLen := by omega
  have hmm : m ≤ maxLen := by omega
  unfold maxLen at hnm hmm
  have hwf : (Lit.int .i64 65536).wf = true := wf_i64 (by omega) (by omega)
  have HM := Lib.hid hwf
  clear hr hg hn hcc hr' hg' hm hcc' hwf
  go_enter Try.func5, Try.ntmps5
  go_wp2_with fail
  refine (st_new mk 65536 (by omega) (by omega) _).mono ?_
  rintro e w1 ⟨rfl, hs, ht⟩
  have HS1 := Lib.hid hs
  have HT1 := Lib.hid ht
  clear hs ht
  go_wp2_with fail
  refine (aw10 _).mono ?_
  rintro e w2 ⟨rfl, ht⟩
  have HS2 := Lib.hid (HS1.out.no ht)
  have HT2 := Lib.hid (HT1.out.trans ht)
  clear ht HS1 HT1
  by_cases h20 : 20 < n
  · go_wp2_with fail
    refine (aw10 _).mono ?_
    rintro e w3 ⟨rfl, ht⟩
    have HT3 := Lib.hid (HT2.out.trans ht)
    clear ht
    go_wp2
    go_ret
    exact ⟨rfl, HT3.out⟩
  have h20' : n ≤ 20 := by omega
  clear h20
  by_cases h100 : 100 < m
  · go_wp2_with fail
    refine (aw10 _).mono ?_
    rintro e w3 ⟨rfl, ht⟩
    have HT3 := Lib.hid (HT2.out.trans ht)
    clear ht
    go_wp2
    go_ret
    exact ⟨rfl, HT3.out⟩
  have h100' : m ≤ 100 := by omega
  clear h100
  go_wp2_with fail
  go_loopw [9] (fun iv wr => ∃ k : Nat, k ≤ n ∧ iv = .int .i64 k ∧ Hid (∀ j (h : j < k) (h2 : j < ls.length), fine mk ls[j]) ∧ IsSt wr w.heap.size w.heap.size mk 65536 [] 0 ∧ Touch NoS w wr) (fun iv _ => n - (intOf iv).toNat)
  case atStart => exact ⟨0, by omega, rfl, fun j h _ => absurd h (by omega), HS2.out, HT2.out⟩
  case round =>
    obtain ⟨k, hk, rfl, hfine, hs, ht⟩ := hrel
    have HS := Lib.hid hs
    have HT := Lib.hid ht
    have HFN := Lib.hid hfine
    by_cases hlt : k < n
    · have hk1 : k < ls.length := by rw [HN.out]; exact hlt
      obtain ⟨g, off, rfl, hg, a0, a1, a2, a3, a4, a5, a6, a7⟩ := fr_cells HR.out k hk1
      have hgd := HG.out ls[k] (List.getElem_mem hk1)
      have hnext : ls[k].data.size ≤ 500 → form9 ls[k] = true → ls[k].masked = mk → (∀ j (h : j < k + 1) (h2 : j < ls.length), fine mk ls[j]) := fun h1 h2 h3 j h4 h5 => by
        by_cases hjk : j = k
        · subst hjk; exact ⟨hgd, h2, h1, h3⟩
        · exact hfine.out j (by omega) h5
      obtain ⟨f, hf⟩ : ∃ f, f = ls[k] := ⟨_, rfl⟩
      rw [← hf] at a0 a1 a2 a3 a4 a5 a6 a7 hgd hnext
      have HNX := Lib.hid hnext
      have hdm : f.data.size ≤ 9223372036854775807 := hgd.2.2
      have HFM := Lib.hid (fun W => r9_form f hgd.2.2 W)
      obtain ⟨b, hb⟩ : ∃ b, b = form9 f := ⟨_, rfl⟩
      rw [← hb] at HFM
      have HBF : Hid (b = true → form9 f = true) := fun h => by rw [← hb]; exact h
      obtain ⟨fin, op, masked, k0, k1, k2, k3, d⟩ := f
      simp only [Fr.cs] at *
      have HA0 := Lib.hid a0
      have HA1 := Lib.hid a1
      have HA2 := Lib.hid a2
      have HA3 := Lib.hid a3
      have HA4 := Lib.hid a4
      have HA5 := Lib.hid a5
      have HA6 := Lib.hid a6
      have HA7 := Lib.hid a7
      have HGL := Lib.hid hg
      clear hs ht hfine hf hgd hb hk1 a0 a1 a2 a3 a4 a5 a6 a7 hg HS2 HT2 hnext
      have a0 := HT.out.cell HA0.out
      have a1 := HT.out.cell HA1.out
      have a2 := HT.out.cell HA2.out
      have a3 := HT.out.cell HA3.out
      have a4 := HT.out.cell HA4.out
      have a5 := HT.out.cell HA5.out
      have a6 := HT.out.cell HA6.out
      have a7 := HT.out.cell HA7.out
      have hg := Nat.lt_of_lt_of_le HGL.out HT.out.size
      go_wp2_with fail
      refine (HFM.out _).mono ?_
      rintro e w4 ⟨rfl, ht⟩
      have HS4 := Lib.hid (HS.out.no ht)
      have HT4 := Lib.hid (HT.out.trans ht)
      clear ht HS HT a0 a1 a2 a3 a4 a5 a6 a7 hg
      have a2 := HT4.out.cell HA2.out
      have a7 := HT4.out.cell HA7.out
      have hg := Nat.lt_of_lt_of_le HGL.out HT4.out.size
      cases b with
      | false =>
        go_wp2
        go_ret
        exact ⟨rfl, HT4.out⟩
      | true =>
        by_cases h5 : 500 < d.size
        · go_wp2
          go_ret
          exact ⟨rfl, HT4.out⟩
        have h5' : d.size ≤ 500 := by omega
        clear h5
        by_cases hmk : masked = mk
        · subst hmk
          have hnx : Hid (∀ j (h : j < k + 1) (h2 : j < ls.length), fine masked ls[j]) := HNX.out h5' (HBF.out rfl) rfl
          clear HNX HBF
          go_wp2_with fail
          go_roundw
          · exact ⟨k + 1, by omega, by go_num, hnx, HS4.out, HT4.out⟩
          · simp [intOf]; omega
        · have hq : (!(masked == mk)) = true := by cases masked <;> cases mk <;> first | rfl | exact absurd rfl hmk
          go_wp2
          go_ret
          exact ⟨rfl, HT4.out⟩
    · have hkn : k = n := by omega
      subst hkn
      have hall : ∀ f ∈ ls, fine mk f := fun f hf => by
        obtain ⟨j, hj, rfl⟩ := List.getElem_of_mem hf
        exact HFN.out.out j (by rw [← HN.out]; exact hj) hj
      have HALL := Lib.hid hall
      have hsct := scan_texts mk ls hall (by rw [HN.out]; exact h20')
      have htl := texts_len mk ls hall
      have htin := texts_in mk ls hall
      rw [HN.out] at htl
      obtain ⟨E, hE⟩ : ∃ E, E = Go.strOfNums (texts ls) := ⟨_, rfl⟩
      have hEz : E.size ≤ 10280 := by rw [hE, numsB_size]; omega
      have hsE : sb E = texts ls := by rw [hE, sb_nums _ htin]
      have HSE : Hid (∃ gs, scan mk 65536 ([] ++ sb E) = (gs, [], 0) ∧ [] ++ gs = ls) := ⟨ls, by rw [List.nil_append, hsE]; exact hsct, rfl⟩
      have HE := Lib.hid hE
      clear hs ht hfine hall hsct htl htin hE hsE HS2 HT2
      go_wp2_with fail
      refine (r10_text A ls k c HN.out wr (HR.out.touch_no HT.out) mk HALL.out h20').mono ?_
      rintro e w4 ⟨rfl, ht⟩
      rw [← HE.out]
      have HS4 := Lib.hid (HS.out.no ht)
      have HT4 := Lib.hid (HT.out.trans ht)
      have hw4 : w.heap.size ≤ w4.heap.size := HT4.out.size
      clear ht HS HT
      obtain ⟨i, hi, hz0, hz1, hz2⟩ := info_parts info_fr
      go_wp2_with fail
      go_loopw [10, 11, 12] (fun rv tv iv wx => ∃ (q : Nat) (r : ByteArray) (fs : List Fr) (part : List Int) (At : Option Addr) (ct : Nat), q ≤ m ∧ iv = .int .i64 q ∧ rv = .string r ∧ tv = .slice At fs.length ct ∧
          wx.ownsRow w.heap.size 43 8 (.slice At fs.length ct) fs.length (frs fs) ∧ IsSt wx w.heap.size w.heap.size mk 65536 part 0 ∧ Hid (bytesIn part) ∧ part.length + r.size ≤ 10280 ∧ Hid (∃ gs, scan mk 65536 (part ++ sb r) = (gs, [], 0) ∧ fs ++ gs = ls) ∧ Touch NoS w wx)
        (fun _ _ iv _ => m - (intOf iv).toNat)
      case atStart => exact ⟨0, E, [], [], _, _, by omega, rfl, rfl, rfl, ⟨rfl, .inr ⟨w4.heap.size, 0, #[], rfl, hw4, Blk.new _ _ _, Nat.le_refl _, by simp [maxLen], rfl, rfl⟩⟩, HS4.out.no ((Touch.refl _ _).alloc _), fun x hx => (by cases hx), by simpa using hEz, HSE.out, HT4.out.alloc _⟩
      case round =>
        obtain ⟨q, r, fs, part, At, ct, hq, rfl, rfl, rfl, ho, hs, hpin, hz, hsc, ht⟩ := hrel
        have HO := Lib.hid ho
        have HS := Lib.hid hs
        have HT := Lib.hid ht
        have HPI := Lib.hid hpin
        have HSC := Lib.hid hsc
        obtain ⟨gs0, hsc0, hgs0⟩ := hsc.out
        have hfl : fs.length ≤ 20 := by have := congrArg List.length hgs0; rw [List.length_append, HN.out] at this; omega
        clear ho hs ht hpin hsc HS4 HT4 HSE hsc0 hgs0
        by_cases hgo : q < m ∧ r.size ≠ 0
        · obtain ⟨hqm, hr0⟩ := hgo
          obtain ⟨e1, e2⟩ := str_ne r (by omega)
          have hq1 : q < cu.length := by rw [HMC.out]; exact hqm
          obtain ⟨gB, oB, rfl, hgB, c0⟩ := u8_at (HR'.out.touch_no HT.out) q hq1
          have hx8 := u8_bounds (HG'.out cu[q] (List.getElem_mem hq1))
          obtain ⟨x, hx⟩ : ∃ x, x = cu[q] := ⟨_, rfl⟩
          rw [← hx] at c0 hx8
          obtain ⟨xN, rfl⟩ := Int.eq_ofNat_of_zero_le hx8.1
          clear hx hq1
          have hN : min (xN : Int) (r.size : Int) = ((min xN r.size : Nat) : Int) := by omega
          obtain ⟨N, hNd⟩ : ∃ N, N = min xN r.size := ⟨_, rfl⟩
          rw [← hNd] at hN
          have hNr : N ≤ r.size := by omega
          obtain ⟨gs, hsc1, hgs⟩ := HSC.out.out
          have hPs : sb (r.extract 0 N) = (sb r).take N := by rw [sb_extract, List.drop_zero]
          have hPz : (r.extract 0 N).size = N := by rw [← sb_length, hPs, List.length_take, sb_length]; omega
          have hQs : sb (r.extract N r.size) = (sb r).drop N := by rw [sb_extract, List.take_of_length_le (by rw [sb_length]; exact Nat.le_refl _)]
          have hQz : (r.extract N r.size).size = r.size - N := by rw [← sb_length, hQs, List.length_drop, sb_length]
          have hin : bytesIn (part ++ sb r) := fun x hx => by
            rcases List.mem_append.1 hx with h | h
            · exact HPI.out.out x h
            · exact sb_in r x h
          have hcat : part ++ sb (r.extract 0 N) ++ sb (r.extract N r.size) = part ++ sb r := by rw [hPs, hQs, List.append_assoc, List.take_append_drop]
          obtain ⟨fs2, part2, gs2, hs1, hs2, hs3⟩ := scan_split mk 65536 part (sb (r.extract 0 N)) (sb (r.extract N r.size)) gs (by rw [hcat]; exact hin) (by rw [hcat, List.length_append, sb_length]; unfold maxLen; omega) (by rw [hcat]; exact hsc1)
          have hinP : bytesIn (part ++ sb (r.extract 0 N)) := fun x hx => by
            rcases List.mem_append.1 hx with h | h
            · exact HPI.out.out x h
            · exact sb_in _ x h
          have hq2 := scan_in mk 65536 (part ++ sb (r.extract 0 N)).length (part ++ sb (r.extract 0 N)) (Nat.le_refl _) hinP (by rw [List.length_append, sb_length, hPz]; unfold maxLen; omega)
          rw [hs1, List.length_append, sb_length, hPz] at hq2
          simp only at hq2
          obtain ⟨hq3, hq4, _⟩ := hq2
          have hall2 : fs ++ fs2 ++ gs2 = ls := by rw [List.append_assoc, hs3]; exact hgs
          have hfl2 : fs.length + fs2.length + gs2.length = k := by have := congrArg List.length hall2; rw [List.length_append, List.length_append, HN.out] at this; exact this
          have HS1 := Lib.hid hs1
          have HNEXT : Hid (∃ gs, scan mk 65536 (part2 ++ sb (r.extract N r.size)) = (gs, [], 0) ∧ (fs ++ fs2) ++ gs = ls) := ⟨gs2, hs2, hall2⟩
          have HINP := Lib.hid hinP
          have HQ3 := Lib.hid hq3
          obtain ⟨w5, cp, hconv, ht, hrd, hcp, hcm, h23⟩ := conv_ex wr (r.extract 0 N) (by rw [hPz]; unfold maxLen; omega)
          rw [hPz] at hconv
          have HPZ := Lib.hid hPz
          have HRD := Lib.hid hrd
          have HO5 := Lib.hid (own_no HO.out ht)
          have HS5 := Lib.hid (HS.out.no ht)
          have HT5 := Lib.hid (HT.out.trans ht)
          have hsz5 : w.heap.size ≤ w5.heap.size := HT5.out.size
          have hQz2 := hQz
          have HQZ := Lib.hid hQz
          have n0 : (0 : Int) ≤ N := by omega
          have n1 : (N : Int) ≤ r.size := by omega
          clear hgs hsc1 hPs hPz hQs hQz hQz2 hin hcat hs1 hs2 hs3 hinP hq3 hall2 hrd hcp hcm h23 ht HO HS HT hNd
          go_upto_region 14 with (fail)
          try rw [hN]
          go_wp2_with fail
          refine (st_feed HS5.out HM.out hsz5 (sb (r.extract 0 N)) _ N cp (by rw [sb_length]; exact HPZ.out) HRD.out HINP.out (by omega) fs2 part2 0 HS1.out).mono ?_
          rintro e w6 ⟨A6, c6, rfl, ho6, hs6, ht6⟩
          obtain ⟨A6', c6', hv6, _, _, hrd6, _, _⟩ := own_cases ho6
          injection hv6 with e5 _ e6
          subst e5 e6
          have HRD6 : Hid (Rd w6.drew A6 (frs fs2)) := hrd6.touch_no (Touch.refl _ _).drew
          have HO6 := Lib.hid (SF_own HO5.out HS5.out ht6 (by decide) (by decide))
          have HS6 := Lib.hid hs6
          have HT6 := Lib.hid (SF_old HT5.out ht6 (Nat.le_refl _) (Nat.le_refl _))
          have hsz6 : w.heap.size ≤ w6.heap.size := HT6.out.size
          clear ho6 hs6 ht6 hrd6 HO5 HS5 HT5 HRD hconv
          go_wp2_with fail
          go_region_law (first
            | (refine step_app_row _ rfl (.tmp 106) (.tmp 107) 29 rfl w.heap.size 43 i _ 8 40 Try.underlying29 hi hz0 hz1 hz2 rfl (by decide) (.slice At fs.length ct) fs.length (frs fs) (by simp [Act.eval, Act.put]) (own_no HO6.out (Touch.refl _ _).drew) A6 fs2.length c6 (frs fs2) (by simp [Act.eval, Act.put]) (frs_length fs2) HRD6.out (frs_one fs2) (by unfold maxLen; omega) (by omega) hsz6 ?_
               intro v7 w7 ho7 hgr _
               rw [← List.length_append, ← frs_append] at ho7
               obtain ⟨A7, c7, rfl, _, _, _, _, _⟩ := own_cases ho7
               have HO7 := Lib.hid ho7
               have HS7 := Lib.hid ((HS6.out.no (Touch.refl _ _).drew).grown (own_no HO6.out (Touch.refl _ _).drew) (by decide) (by decide) hgr)
               have HT7 := Lib.hid (HT6.out.drew.grown hgr (fun q hq hl => absurd (own_base HO6.out hq) (by omega)))
               clear ho7 hgr))
          all_goals
            simp [Act.put]
            go_wp2_with fail
            go_roundw
            · refine ⟨q + 1, r.extract N r.size, fs ++ fs2, part2, A7, c7, by omega, by go_num, rfl, by rw [List.length_append], (by have h := HO7.out; simp only [List.length_append] at h ⊢; exact h), HS7.out, HQ3.out, by rw [HQZ.out]; omega, HNEXT.out, HT7.out⟩
            · simp [intOf]; omega
        · by_cases hqm : q < m
          · have hr0 : r.size = 0 := by
              by_cases h : r.size = 0
              · exact h
              · exact absurd ⟨hqm, h⟩ hgo
            obtain rfl : r = ⟨#[]⟩ := ByteArray.ext (Array.eq_empty_of_size_eq_zero hr0)
            clear hgo hr0
            obtain ⟨gs, hsc1, hgs⟩ := HSC.out.out
            have hin : bytesIn (part ++ sb (⟨#[]⟩ : ByteArray)) := fun x hx => by
              rcases List.mem_append.1 hx with h | h
              · exact HPI.out.out x h
              · exact sb_in (⟨#[]⟩ : ByteArray) x h
            have hgl : fs.length + gs.length = k := by have := congrArg List.length hgs; rw [List.length_append, HN.out] at this; exact this
            have hfg : fs.length + gs.length ≤ 20 := by omega
            clear hgl
            have HSC1 := Lib.hid hsc1
            have HGS := Lib.hid hgs
            have HIN := Lib.hid hin
            obtain ⟨w5, cp, hconv, ht, hrd, hcp, hcm, h23⟩ := conv_ex wr (⟨#[]⟩ : ByteArray) (by unfold maxLen; decide)
            have HRD := Lib.hid hrd
            have HO5 := Lib.hid (own_no HO.out ht)
            have HS5 := Lib.hid (HS.out.no ht)
            have HT5 := Lib.hid (HT.out.trans ht)
            have hsz5 : w.heap.size ≤ w5.heap.size := HT5.out.size
            clear hsc1 hgs hin hrd hcp hcm h23 ht HO HS HT
            go_wp2_with fail
            refine (st_feed HS5.out HM.out hsz5 (sb (⟨#[]⟩ : ByteArray)) _ 0 cp rfl HRD.out HIN.out (by first | omega | (simp at hz; omega)) gs [] 0 HSC1.out).mono ?_
            rintro e w6 ⟨A6, c6, rfl, ho6, hs6, ht6⟩
            obtain ⟨A6', c6', hv6, _, _, hrd6, _, _⟩ := own_cases ho6
            injection hv6 with e5 _ e6
            subst e5 e6
            have HRD6 := Lib.hid hrd6
            have HO6 := Lib.hid (SF_own HO5.out HS5.out ht6 (by decide) (by decide))
            have HS6 := Lib.hid hs6
            have HT6 := Lib.hid (SF_old HT5.out ht6 (Nat.le_refl _) (Nat.le_refl _))
            have hsz6 : w.heap.size ≤ w6.heap.size := HT6.out.size
            clear ho6 hs6 ht6 hrd6 HO5 HS5 HT5 HRD hconv
            go_wp2_with fail
            refine (st_part HS6.out 0 rfl).mono ?_
            rintro e w6' ⟨rfl, rfl⟩
            go_wp2_with (at_builtin; refine wpList_app_want _ (by rfl) (.tmp 127) (.tmp 128) 29 rfl w.heap.size 43 i _ 8 40 Try.underlying29 hi hz0 hz1 hz2 rfl (by decide) _ fs.length (frs fs) rfl HO6.out A6 gs.length c6 (frs gs) rfl (frs_length gs) HRD6.out (frs_one gs) (by unfold maxLen; omega) (by omega) hsz6 ?_)
            intro v7 w7 ho7 hgr _
            obtain ⟨A7, c7, rfl, _, _, hrd7, _, _⟩ := own_cases ho7
            rw [← frs_append] at hrd7
            have HRD7 := Lib.hid hrd7
            have HT7 := Lib.hid (HT6.out.grown hgr (fun q hq hl => absurd (own_base HO6.out hq) (by omega)))
            clear ho7 hgr hrd7 HO6 HT6
            go_wp2_with fail
            refine (r10_same _ _ (fs ++ gs) ls _ _ _ _ List.length_append HN.out w7 HRD7.out (HR.out.touch_no HT7.out) (by omega) (by omega)).mono ?_
            rintro e w8 ⟨rfl, ht8⟩
            rw [decide_eq_true HGS.out]
            have HT8 := Lib.hid (HT7.out.trans ht8)
            clear ht8
            go_wp2
            go_ret
            exact ⟨rfl, HT8.out⟩
          · clear hgo
            obtain ⟨gs, hsc1, hgs⟩ := HSC.out.out
            have hin : bytesIn (part ++ sb r) := fun x hx => by
              rcases List.mem_append.1 hx with h | h
              · exact HPI.out.out x h
              · exact sb_in r x h
            have hgl : fs.length + gs.length = k := by have := congrArg List.length hgs; rw [List.length_append, HN.out] at this; exact this
            have hfg : fs.length + gs.length ≤ 20 := by omega
            clear hgl
            have HSC1 := Lib.hid hsc1
            have HGS := Lib.hid hgs
            have HIN := Lib.hid hin
            obtain ⟨w5, cp, hconv, ht, hrd, hcp, hcm, h23⟩ := conv_ex wr r (by unfold maxLen; omega)
            have HRD := Lib.hid hrd
            have HO5 := Lib.hid (own_no HO.out ht)
            have HS5 := Lib.hid (HS.out.no ht)
            have HT5 := Lib.hid (HT.out.trans ht)
            have hsz5 : w.heap.size ≤ w5.heap.size := HT5.out.size
            clear hsc1 hgs hin hrd hcp hcm h23 ht HO HS HT
            go_wp2_with fail
            refine (st_feed HS5.out HM.out hsz5 (sb r) _ r.size cp (sb_length r) HRD.out HIN.out (by omega) gs [] 0 HSC1.out).mono ?_
            rintro e w6 ⟨A6, c6, rfl, ho6, hs6, ht6⟩
            obtain ⟨A6', c6', hv6, _, _, hrd6, _, _⟩ := own_cases ho6
            injection hv6 with e5 _ e6
            subst e5 e6
            have HRD6 := Lib.hid hrd6
            have HO6 := Lib.hid (SF_own HO5.out HS5.out ht6 (by decide) (by decide))
            have HS6 := Lib.hid hs6
            have HT6 := Lib.hid (SF_old HT5.out ht6 (Nat.le_refl _) (Nat.le_refl _))
            have hsz6 : w.heap.size ≤ w6.heap.size := HT6.out.size
            clear ho6 hs6 ht6 hrd6 HO5 HS5 HT5 HRD hconv
            go_wp2_with fail
            refine (st_part HS6.out 0 rfl).mono ?_
            rintro e w6' ⟨rfl, rfl⟩
            go_wp2_with (at_builtin; refine wpList_app_want _ (by rfl) (.tmp 127) (.tmp 128) 29 rfl w.heap.size 43 i _ 8 40 Try.underlying29 hi hz0 hz1 hz2 rfl (by decide) _ fs.length (frs fs) rfl HO6.out A6 gs.length c6 (frs gs) rfl (frs_length gs) HRD6.out (frs_one gs) (by unfold maxLen; omega) (by omega) hsz6 ?_)
            intro v7 w7 ho7 hgr _
            obtain ⟨A7, c7, rfl, _, _, hrd7, _, _⟩ := own_cases ho7
            rw [← frs_append] at hrd7
            have HRD7 := Lib.hid hrd7
            have HT7 := Lib.hid (HT6.out.grown hgr (fun q hq hl => absurd (own_base HO6.out hq) (by omega)))
            clear ho7 hgr hrd7 HO6 HT6
            go_wp2_with fail
            refine (r10_same _ _ (fs ++ gs) ls _ _ _ _ List.length_append HN.out w7 HRD7.out (HR.out.touch_no HT7.out) (by omega) (by omega)).mono ?_
            rintro e w8 ⟨rfl, ht8⟩
            rw [decide_eq_true HGS.out]
            have HT8 := Lib.hid (HT7.out.trans ht8)
            clear ht8
            go_wp2
            go_ret
            exact ⟨rfl, HT8.out⟩
end Go.Proofs.Ytfafpcmdgjmlhaa
