/- frame: Put. -/
import Derived.Test.YtpadlcllcmodaaaY09
import Derived.Deep.RegionHeld3
/- frame: Put. -/
namespace Go.Proofs.Ytpadlcllcmodaaa
open Go.RowKit
set_option linter.unusedSimpArgs false
set_option linter.unusedVariables false

theorem check_ok {f : Fr} (h : check9 f = 0) : ((8 ≤ f.op ∧ f.op ≤ 10) ∨ (0 ≤ f.op ∧ f.op ≤ 2)) ∧ f.data.size ≤ 65536 ∧ form9 f = true := by
  unfold check9 at h
  split at h
  · rename_i hf
    split at h
    · cases h
    · refine ⟨?_, by omega, hf⟩
      simp [form9, known9] at hf
      exact hf.1.1
  · cases h
theorem check_cases (f : Fr) : check9 f = 0 ∨ check9 f = 91 ∨ check9 f = 92 := by
  unfold check9
  split
  · split <;> simp
  · simp
theorem op_or (op : Int) (h : (8 ≤ op ∧ op ≤ 10) ∨ (0 ≤ op ∧ op ≤ 2)) : bits .or .u8 op 128 = op + 128 := or128 op (by omega) (by omega)

theorem Rd_nil (w : World) (A : Option Addr) : Rd w A (u8s []) := fun h => absurd rfl h
theorem lenB_le (n : Nat) : (lenB n).length ≤ 9 := by rw [lenB_length]; split; omega; split <;> omega
theorem Blk.rd {w : World} {g : Nat} {t : TypeId} {cs : Array Value} (h : Blk w g t cs) (i : Nat) (xs : List Value) (hx : ∀ j u, xs[j]? = some u → cs[i + j]? = some u) : Rd w (some ⟨g, i, none⟩) xs := fun _ =>
  ⟨g, i, rfl, h.lt, fun j u hu => by rw [h.cell]; exact hx j u hu⟩
theorem m_apply_ (k0 k1 k2 k3 : Int) (hK : bytesIn [k0, k1, k2, k3]) (p : Nat) (pi : Int) (hpi : (p : Int) = pi) (hp : p ≤ 4611686018427387904) (A : Option Addr) (l : List Int) (n cap : Nat) (hn : l.length = n) (w : World) (hr : Rd w A (u8s l)) (hb : bytesIn l) (hl : l.length ≤ 281474976710656) :
    Calls Try.prog 77 #[.agg #[.int .u8 k0, .int .u8 k1, .int .u8 k2, .int .u8 k3], .int .i64 pi, .slice A n cap] w fun e w' =>
      ∃ g, e = .returned (.slice (some ⟨g, 0, none⟩) n n) ∧ w.heap.size ≤ g ∧ Rd w' (some ⟨g, 0, none⟩) (u8s (turn [k0, k1, k2, k3] p l)) ∧ Touch NoS w w' := by
  subst hpi
  subst hn
  refine (m_apply k0 k1 k2 k3 hK p hp A l cap w hr hb hl).mono ?_
  rintro e w' ⟨g, he, hg, hbk, ht⟩
  refine ⟨g, he, hg, hbk.rd 0 _ (fun j u hu => ?_), ht⟩
  rw [Nat.zero_add]
  simpa using hu
theorem m_put_ (n : Nat) (hn : n < 9223372036854775808) (x : Int) (hx : IntKind.u64.wrap (n : Int) = x) (w : World) :
    Calls Try.prog 76 #[.int .u64 x] w fun e w' =>
      ∃ v, e = .returned (.tuple #[v, .int .i64 0]) ∧ w'.ownsRow w.heap.size 5 1 v (lenB n).length (u8s (lenB n)) ∧ Touch NoS w w' := by
  rw [IntWalk.u64_in _ (by omega)] at hx
  subst hx
  exact m_put n hn w
set_option maxHeartbeats 1600000 in
set_option maxRecDepth 100000 in
theorem f_put_no (f : Fr) (hf : f.good) (hc : check9 f ≠ 0) (w : World) : Calls Try.prog 56 #[.agg f.cs] w fun e w' => e = .returned (.tuple #[.slice none 0 0, .int .i64 (check9 f)]) ∧ Touch NoS w w' := by
  have HCK : Hid (∀ W, Calls Try.prog 65 #[.agg f.cs] W fun e w' => e = .returned (.int .i64 (check9 f)) ∧ Touch NoS W w') := fun W => f_check f hf W
  obtain ⟨c, hcc⟩ : ∃ c, c = check9 f := ⟨_, rfl⟩
  rw [← hcc] at hc HCK ⊢
  have hc1 : (c == 0) = false := by rw [beq_eq_false_iff_ne]; exact hc
  obtain ⟨fin, op, masked, k0, k1, k2, k3, d⟩ := f
  simp only [Fr.cs] at *
  clear hcc hf hc
  go_enter Try.func56, Try.ntmps56
  go_wp2_with fail
  refine (HCK.out _).mono ?_
  rintro e w1 ⟨rfl, ht⟩
  have HT := Lib.hid (((Touch.refl NoS w).alloc (.cells #[.bool fin, .int .i64 op, .bool masked, .int .u8 k0, .int .u8 k1, .int .u8 k2, .int .u8 k3, .string d] 59)).trans ht)
  clear ht
  go_wp2
  go_ret2
  exact ⟨rfl, HT.out⟩
set_option maxHeartbeats 3200000 in
set_option maxRecDepth 100000 in
theorem f_put_plain (f : Fr) (hf : f.good) (hc : check9 f = 0) (hm : f.masked = false) (w : World) : Calls Try.prog 56 #[.agg f.cs] w fun e w' => ∃ v, e = .returned (.tuple #[v, .int .i64 0]) ∧ w'.ownsRow w.heap.size 5 1 v (fput f).length (u8s (fput f)) ∧ Touch NoS w w' := by
  have HCK : Hid (∀ W, Calls Try.prog 65 #[.agg f.cs] W fun e w' => e = .returned (.int .i64 (check9 f)) ∧ Touch NoS W w') := fun W => f_check f hf W
  obtain ⟨hop, hz, hform⟩ := check_ok hc
  clear hform
  obtain ⟨L, hL⟩ : ∃ L, L = fput f := ⟨_, rfl⟩
  rw [← hL]
  rw [hc] at HCK
  obtain ⟨fin, op, masked, k0, k1, k2, k3, d⟩ := f
  simp only [Fr.cs] at *
  subst hm
  obtain ⟨X, hX⟩ : ∃ X, X = first9 ⟨fin, op, false, k0, k1, k2, k3, d⟩ := ⟨_, rfl⟩
  have hLL : L = flat [(none, 1, [X]), (none, 0, lenB d.size), (none, 0, []), (none, 0, sb d)] := by rw [hL, hX]; simp [fput, long9, flat]
  simp only [first9] at hX
  have HL := Lib.hid hLL
  have HX := Lib.hid hX
  have HOR := Lib.hid (op_or op hop)
  have hop0 : 0 ≤ op := by omega
  have hop1 : op ≤ 10 := by omega
  clear hf hc hL hLL hX hop
  go_enter Try.func56, Try.ntmps56
  go_wp2_with fail
  refine (HCK.out _).mono ?_
  rintro e w1 ⟨rfl, ht⟩
  have hb := (Blk.new w 59 #[.bool fin, .int .i64 op, .bool false, .int .u8 k0, .int .u8 k1, .int .u8 k2, .int .u8 k3, .string d]).touch ht (fun h => h)
  have HT := Lib.hid (((Touch.refl NoS w).alloc (.cells #[.bool fin, .int .i64 op, .bool false, .int .u8 k0, .int .u8 k1, .int .u8 k2, .int .u8 k3, .string d] 59)).trans ht)
  have c0 := hb.cell 0
  have c1 := hb.cell 1
  have c2 := hb.cell 2
  have c7 := hb.cell 7
  simp at c0 c1 c2 c7
  have hlt := hb.lt
  have HB := Lib.hid hb
  have hor := HOR.out
  clear ht hb
  cases fin
  all_goals
    go_wp2_with fail
    refine (m_put d.size (by omega) _).mono ?_
    rintro e w2 ⟨v, rfl, ho, ht⟩
    obtain ⟨A, c, rfl, hlc, hcm, hrd, _, _⟩ := own_cases ho
    have HB2 := Lib.hid (HB.out.touch ht (fun h => h))
    have HT2 := Lib.hid (HT.out.trans ht)
    have HR2 := Lib.hid hrd
    have c2 := ht.cell c2
    have c7 := ht.cell c7
    clear ho ht hlc hcm hrd c0 c1 hor
    obtain ⟨w3, cp, hconv, ht, hrd, _, _, h23⟩ := conv_ex w2 d (by unfold maxLen; omega)
    have c2 := ht.cell c2
    have HB3 := Lib.hid (HB2.out.touch ht (fun h => h))
    have HT3 := Lib.hid (HT2.out.trans ht)
    have HR3 := Lib.hid (HR2.out.touch_no ht)
    have HD3 := Lib.hid hrd
    clear ht hrd HB2 HT2 HR2 HB HCK
    go_wp2_with fail
    refine (sl_concat4 w3 _ A none _ (lenB d.size) [] (sb d) _ 0 d.size c 0 cp rfl rfl (sb_length d) HR3.out (Rd_nil _ _) HD3.out (by have := lenB_le d.size; rw [sb_length]; simp only [List.length_nil]; omega) 5 36 _ _ rfl rfl).mono ?_
    rintro e w4 ⟨v, rfl, ho, ht⟩
    have HO := Lib.hid ho
    have HT4 := Lib.hid (HT3.out.trans ht)
    clear ho ht
    go_wp2_with fail
    go_ret2
    refine ⟨_, rfl, ?_, HT4.out⟩
    rw [HL.out, HX.out]
    have h := own_lower HO.out (base' := w.heap.size) (by have := HT3.out.size; omega)
    simpa [flat] using h
set_option maxHeartbeats 3200000 in
set_option maxRecDepth 100000 in
theorem f_put_mask (f : Fr) (hf : f.good) (hc : check9 f = 0) (hm : f.masked = true) (w : World) : Calls Try.prog 56 #[.agg f.cs] w fun e w' => ∃ v, e = .returned (.tuple #[v, .int .i64 0]) ∧ w'.ownsRow w.heap.size 5 1 v (fput f).length (u8s (fput f)) ∧ Touch NoS w w' := by
  have HCK : Hid (∀ W, Calls Try.prog 65 #[.agg f.cs] W fun e w' => e = .returned (.int .i64 (check9 f)) ∧ Touch NoS W w') := fun W => f_check f hf W
  obtain ⟨hop, hz, hform⟩ := check_ok hc
  obtain ⟨_, hk, _⟩ := hf
  clear hform
  obtain ⟨L, hL⟩ : ∃ L, L = fput f := ⟨_, rfl⟩
  rw [← hL]
  rw [hc] at HCK
  obtain ⟨fin, op, masked, k0, k1, k2, k3, d⟩ := f
  simp only [Fr.cs, Fr.key] at *
  subst hm
  obtain ⟨X, hX⟩ : ∃ X, X = first9 ⟨fin, op, true, k0, k1, k2, k3, d⟩ := ⟨_, rfl⟩
  obtain ⟨x0, t0, hB, hx0, hx1⟩ := lenB_head d.size
  have hLL : L = X :: ((lenB d.size).set 0 (x0 + 128) ++ ([k0, k1, k2, k3] ++ turn [k0, k1, k2, k3] 0 (sb d))) := by
    rw [hL, hX]
    simp only [fput, long9, if_true, Fr.key, hB, List.getD_cons_zero]
  simp only [first9] at hX
  have HL := Lib.hid hLL
  have HX := Lib.hid hX
  have HOR := Lib.hid (op_or op hop)
  have HK := Lib.hid hk
  have HBB := Lib.hid hB
  have hor0 := or128 x0 hx0 hx1
  have hop0 : 0 ≤ op := by omega
  have hop1 : op ≤ 10 := by omega
  clear hc hL hLL hX hop hk hB
  go_enter Try.func56, Try.ntmps56
  go_wp2_with fail
  refine (HCK.out _).mono ?_
  rintro e w1 ⟨rfl, ht⟩
  have hb := (Blk.new w 59 #[.bool fin, .int .i64 op, .bool true, .int .u8 k0, .int .u8 k1, .int .u8 k2, .int .u8 k3, .string d]).touch ht (fun h => h)
  have HT := Lib.hid (((Touch.refl NoS w).alloc (.cells #[.bool fin, .int .i64 op, .bool true, .int .u8 k0, .int .u8 k1, .int .u8 k2, .int .u8 k3, .string d] 59)).trans ht)
  have c0 := hb.cell 0
  have c1 := hb.cell 1
  have c2 := hb.cell 2
  have c7 := hb.cell 7
  simp at c0 c1 c2 c7
  have hlt := hb.lt
  have HB := Lib.hid hb
  have hor := HOR.out
  clear ht hb
  cases fin
  all_goals
    go_wp2_with fail
    refine (m_put d.size (by omega) _).mono ?_
    rintro e w2 ⟨v, rfl, ho, ht⟩
    have hll := lenB_length d.size
    obtain ⟨g, c, rfl, hlc, hgb⟩ := own_out ho (by rw [hll]; split; omega; split <;> omega)
    have HO2 := Lib.hid ho
    have HB2 := Lib.hid (HB.out.touch ht (fun h => h))
    have HT2 := Lib.hid (HT.out.trans ht)
    have c2 := ht.cell c2
    have c7 := ht.cell c7
    have hgl := (own_cell ho 0 (.int .u8 x0) (by rw [HBB.out]; rfl)).2.2
    clear ho ht hlc c0 c1 hor hll
    obtain ⟨w3, cp, hconv, ht, hrd, _, _, h23⟩ := conv_ex w2 d (by unfold maxLen; omega)
    have c2 := ht.cell c2
    have HB3 := Lib.hid (HB2.out.touch ht (fun h => h))
    have HO3 := Lib.hid (own_no HO2.out ht)
    have HT3 := Lib.hid (HT2.out.trans ht)
    have HD3 := Lib.hid hrd
    obtain ⟨l0, l1, l2⟩ := own_cell HO3.out 0 (.int .u8 x0) (by rw [HBB.out]; rfl)
    clear ht hrd HB2 HT2 HB HCK HO2
    have hll : (0 : Int) < (lenB d.size).length := by rw [HBB.out]; simp
    go_wp2_with fail
    obtain ⟨w4, hw4⟩ : ∃ w4, w4 = w3.setCell ⟨g, 0, none⟩ (.int .u8 (x0 + 128)) := ⟨_, rfl⟩
    rw [← hw4]
    have hgw : w.heap.size ≠ g := by omega
    have HB4 := Lib.hid (HB3.out.far (p := ⟨g, 0, none⟩) hgw (.int .u8 (x0 + 128)))
    rw [← hw4] at HB4
    have HO4 : Hid (w4.ownsRow w1.heap.size 5 1 (.slice (some ⟨g, 0, none⟩) (lenB d.size).length c) (lenB d.size).length (u8s ((lenB d.size).set 0 (x0 + 128)))) := by
      have := own_set HO3.out 0 (by rw [HBB.out]; simp) (.int .u8 (x0 + 128))
      rw [hw4]
      simp only [u8s, List.map_set] at this ⊢
      exact this
    have ht34 : Touch (At g) w3 w4 := by rw [hw4]; exact (Touch.refl _ _).setAt _ _
    have HT4 : Hid (Touch NoS w w4) := HT3.out.at_new ht34 (by omega)
    have HD4 := Lib.hid (HD3.out.touch ht34 (fun a ha he => by injection ha with ha; subst ha; have : w2.heap.size = g := he; omega))
    have c3 := HB4.out.cell 3
    have c4 := HB4.out.cell 4
    have c5 := HB4.out.cell 5
    have c6 := HB4.out.cell 6
    simp at c3 c4 c5 c6
    clear hw4 ht34 HT3 HD3 HB3 HO3 l0 l1 l2 c2 c7 hconv hor0
    have HAP := fun W (h : Touch NoS w4.drew W) => m_apply_ k0 k1 k2 k3 HK.out 0 0 rfl (by omega) _ (sb d) d.size cp (sb_length d) W ((HD4.out.touch_no (Touch.refl _ _).drew).touch_no h) (sb_in d) (by rw [sb_length]; omega)
    have HAPP := Lib.hid HAP
    have htd : Touch NoS w4.drew w4.drew := Touch.refl _ _
    clear HAP
    go_region_held3 (fun w' => Touch NoS w4.drew w' ∧ w'.cell? ⟨w.heap.size, 3, none⟩ = some (.int .u8 k0) ∧ w'.cell? ⟨w.heap.size, 4, none⟩ = some (.int .u8 k1) ∧ w'.cell? ⟨w.heap.size, 5, none⟩ = some (.int .u8 k2) ∧ w'.cell? ⟨w.heap.size, 6, none⟩ = some (.int .u8 k3))
      (first | go_keep | (refine ⟨?_, ?_, ?_, ?_, ?_⟩ <;> first | assumption | go_keep))
      (first | (go_at_call 77; refine (HAPP.out _ ?_).mono ?_; assumption; rintro e w5 ⟨g5, rfl, hg5, hrd5, ht⟩; have q3 := ht.cell (w := w4.drew) c3; have q4 := ht.cell (w := w4.drew) c4; have q5 := ht.cell (w := w4.drew) c5; have q6 := ht.cell (w := w4.drew) c6))
    have ht' : Touch NoS w4 w5 := (Touch.refl _ w4).drew.trans ht
    have HB5 := Lib.hid (HB4.out.touch ht' (fun h => h))
    have HO5 := Lib.hid (own_no HO4.out ht')
    have HT5 := Lib.hid (HT4.out.trans ht')
    have HD5 := Lib.hid hrd5
    clear ht ht' hrd5 HB4 HO4 HT4 HD4 c3 c4 c5 c6 q3 q4 q5 q6 HAPP htd
    go_wp2_with fail
    refine (sl_concat4 w5 _ (some ⟨g, 0, none⟩) (some ⟨w.heap.size, 3, none⟩) (some ⟨g5, 0, none⟩) ((lenB d.size).set 0 (x0 + 128)) [k0, k1, k2, k3] (turn [k0, k1, k2, k3] 0 (sb d)) (lenB d.size).length 4 d.size c 4 d.size (by simp) rfl (by rw [turn_length, sb_length]) (Row.of_own HO5.out).rd (HB5.out.rd 3 _ (fun j u hu => by rcases j with _ | _ | _ | _ | j <;> simp [u8s] at hu ⊢ <;> exact hu)) HD5.out (by have := lenB_le d.size; rw [turn_length, sb_length]; simp; omega) 5 36 _ _ rfl rfl).mono ?_
    rintro e w6 ⟨v, rfl, ho, ht⟩
    have HO := Lib.hid ho
    have HT6 := Lib.hid (HT5.out.trans ht)
    clear ho ht
    go_wp2_with fail
    go_ret2
    refine ⟨_, rfl, ?_, HT6.out⟩
    rw [HL.out, HX.out]
    have h := own_lower HO.out (base' := w.heap.size) (by have := HT5.out.size; omega)
    simpa using h
theorem f_put (f : Fr) (hf : f.good) (hc : check9 f = 0) (w : World) : Calls Try.prog 56 #[.agg f.cs] w fun e w' => ∃ v, e = .returned (.tuple #[v, .int .i64 0]) ∧ w'.ownsRow w.heap.size 5 1 v (fput f).length (u8s (fput f)) ∧ Touch NoS w w' := by
  cases hm : f.masked
  · exact f_put_plain f hf hc hm w
  · exact f_put_mask f hf hc hm w
end Go.Proofs.Ytpadlcllcmodaaa
