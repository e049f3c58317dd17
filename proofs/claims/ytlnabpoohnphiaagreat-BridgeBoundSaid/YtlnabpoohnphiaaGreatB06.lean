/- frame: Put. | frame: Get. | mask.Key; cut: Masked. -/
import Derived.Test.YtlnabpoohnphiaaGreatB05
import Derived.Test.YtlnabpoohnphiaaGreatB04
import Derived.Deep.RegionHeld3
/- frame: Put. -/
namespace Go.Proofs.YtlnabpoohnphiaaGreat
open Go.RowKit
set_option linter.unusedSimpArgs false
set_option linter.unusedVariables false

theorem check_ok {f : Fr} (h : check9 f = 0) : ((8 ≤ f.op ∧ f.op ≤ 10) ∨ (0 ≤ f.op ∧ f.op ≤ 2)) ∧ f.data.size ≤ 65536 ∧ form9 f = true := by
  unfold check9 at h
  split at h
  · rename_i hf
    split at h
    · cases h
    · refine ⟨?_, by omega, hf⟩
      simp [form9, known9] at hf
      exact hf.1.1
  · cases h
theorem check_cases (f : Fr) : check9 f = 0 ∨ check9 f = 91 ∨ check9 f = 92 := by
  unfold check9
  split
  · split <;> simp
  · simp
theorem op_or (op : Int) (h : (8 ≤ op ∧ op ≤ 10) ∨ (0 ≤ op ∧ op ≤ 2)) : bits .or .u8 op 128 = op + 128 := or128 op (by omega) (by omega)

theorem Rd_nil (w : World) (A : Option Addr) : Rd w A (u8s []) := fun h => absurd rfl h
theorem lenB_le (n : Nat) : (lenB n).length ≤ 9 := by rw [lenB_length]; split; omega; split <;> omega
theorem Blk.rd {w : World} {g : Nat} {t : TypeId} {cs : Array Value} (h : Blk w g t cs) (i : Nat) (xs : List Value) (hx : ∀ j u, xs[j]? = some u → cs[i + j]? = some u) : Rd w (some ⟨g, i, none⟩) xs := fun _ =>
  ⟨g, i, rfl, h.lt, fun j u hu => by rw [h.cell]; exact hx j u hu⟩
theorem m_apply_ (k0 k1 k2 k3 : Int) (hK : bytesIn [k0, k1, k2, k3]) (p : Nat) (pi : Int) (hpi : (p : Int) = pi) (hp : p ≤ 4611686018427387904) (A : Option Addr) (l : List Int) (n cap : Nat) (hn : l.length = n) (w : World) (hr : Rd w A (u8s l)) (hb : bytesIn l) (hl : l.length ≤ 281474976710656) :
    Calls Tryz.prog 113 #[.agg #[.int .u8 k0, .int .u8 k1, .int .u8 k2, .int .u8 k3], .int .i64 pi, .slice A n cap] w fun e w' =>
      ∃ g, e = .returned (.slice (some ⟨g, 0, none⟩) n n) ∧ w.heap.size ≤ g ∧ Rd w' (some ⟨g, 0, none⟩) (u8s (turn [k0, k1, k2, k3] p l)) ∧ Touch NoS w w' := by
  subst hpi
  subst hn
  refine (m_apply k0 k1 k2 k3 hK p hp A l cap w hr hb hl).mono ?_
  rintro e w' ⟨g, he, hg, hbk, ht⟩
  refine ⟨g, he, hg, hbk.rd 0 _ (fun j u hu => ?_), ht⟩
  rw [Nat.zero_add]
  simpa using hu
theorem m_put_ (n : Nat) (hn : n < 9223372036854775808) (x : Int) (hx : IntKind.u64.wrap (n : Int) = x) (w : World) :
    Calls Tryz.prog 112 #[.int .u64 x] w fun e w' =>
      ∃ v, e = .returned (.tuple #[v, .int .i64 0]) ∧ w'.ownsRow w.heap.size 5 1 v (lenB n).length (u8s (lenB n)) ∧ Touch NoS w w' := by
  rw [IntWalk.u64_in _ (by omega)] at hx
  subst hx
  exact m_put n hn w
set_option maxHeartbeats 1600000 in
set_option maxRecDepth 100000 in
theorem f_put_no (f : Fr) (hf : f.good) (hc : check9 f ≠ 0) (w : World) : Calls Tryz.prog 88 #[.agg f.cs] w fun e w' => e = .returned (.tuple #[.slice none 0 0, .int .i64 (check9 f)]) ∧ Touch NoS w w' := by
  have HCK : Hid (∀ W, Calls Tryz.prog 111 #[.agg f.cs] W fun e w' => e = .returned (.int .i64 (check9 f)) ∧ Touch NoS W w') := fun W => f_check f hf W
  obtain ⟨c, hcc⟩ : ∃ c, c = check9 f := ⟨_, rfl⟩
  rw [← hcc] at hc HCK ⊢
  have hc1 : (c == 0) = false := by rw [beq_eq_false_iff_ne]; exact hc
  obtain ⟨fin, op, masked, k0, k1, k2, k3, d⟩ := f
  simp only [Fr.cs] at *
  clear hcc hf hc
  go_enter Tryz.func88, Tryz.ntmps88
  go_wp2_with fail
  refine (HCK.out _).mono ?_
  rintro e w1 ⟨rfl, ht⟩
  have HT := Lib.hid (((Touch.refl NoS w).alloc (.cells #[.bool fin, .int .i64 op, .bool masked, .int .u8 k0, .int .u8 k1, .int .u8 k2, .int .u8 k3, .string d] 42)).trans ht)
  clear ht
  go_wp2
  go_ret2
  exact ⟨rfl, HT.out⟩
set_option maxHeartbeats 3200000 in
set_option maxRecDepth 100000 in
theorem f_put_plain (f : Fr) (hf : f.good) (hc : check9 f = 0) (hm : f.masked = false) (w : World) : Calls Tryz.prog 88 #[.agg f.cs] w fun e w' => ∃ v, e = .returned (.tuple #[v, .int .i64 0]) ∧ w'.ownsRow w.heap.size 5 1 v (fput f).length (u8s (fput f)) ∧ Touch NoS w w' := by
  have HCK : Hid (∀ W, Calls Tryz.prog 111 #[.agg f.cs] W fun e w' => e = .returned (.int .i64 (check9 f)) ∧ Touch NoS W w') := fun W => f_check f hf W
  obtain ⟨hop, hz, hform⟩ := check_ok hc
  clear hform
  obtain ⟨L, hL⟩ : ∃ L, L = fput f := ⟨_, rfl⟩
  rw [← hL]
  rw [hc] at HCK
  obtain ⟨fin, op, masked, k0, k1, k2, k3, d⟩ := f
  simp only [Fr.cs] at *
  subst hm
  obtain ⟨X, hX⟩ : ∃ X, X = first9 ⟨fin, op, false, k0, k1, k2, k3, d⟩ := ⟨_, rfl⟩
  have hLL : L = flat [(none, 1, [X]), (none, 0, lenB d.size), (none, 0, []), (none, 0, sb d)] := by rw [hL, hX]; simp [fput, long9, flat]
  simp only [first9] at hX
  have HL := Lib.hid hLL
  have HX := Lib.hid hX
  have HOR := Lib.hid (op_or op hop)
  have hop0 : 0 ≤ op := by omega
  have hop1 : op ≤ 10 := by omega
  clear hf hc hL hLL hX hop
  go_enter Tryz.func88, Tryz.ntmps88
  go_wp2_with fail
  refine (HCK.out _).mono ?_
  rintro e w1 ⟨rfl, ht⟩
  have hb := (Blk.new w 42 #[.bool fin, .int .i64 op, .bool false, .int .u8 k0, .int .u8 k1, .int .u8 k2, .int .u8 k3, .string d]).touch ht (fun h => h)
  have HT := Lib.hid (((Touch.refl NoS w).alloc (.cells #[.bool fin, .int .i64 op, .bool false, .int .u8 k0, .int .u8 k1, .int .u8 k2, .int .u8 k3, .string d] 42)).trans ht)
  have c0 := hb.cell 0
  have c1 := hb.cell 1
  have c2 := hb.cell 2
  have c7 := hb.cell 7
  simp at c0 c1 c2 c7
  have hlt := hb.lt
  have HB := Lib.hid hb
  have hor := HOR.out
  clear ht hb
  cases fin
  all_goals
    go_wp2_with fail
    refine (m_put d.size (by omega) _).mono ?_
    rintro e w2 ⟨v, rfl, ho, ht⟩
    obtain ⟨A, c, rfl, hlc, hcm, hrd, _, _⟩ := own_cases ho
    have HB2 := Lib.hid (HB.out.touch ht (fun h => h))
    have HT2 := Lib.hid (HT.out.trans ht)
    have HR2 := Lib.hid hrd
    have c2 := ht.cell c2
    have c7 := ht.cell c7
    clear ho ht hlc hcm hrd c0 c1 hor
    obtain ⟨w3, cp, hconv, ht, hrd, _, _, h23⟩ := conv_ex w2 d (by unfold maxLen; omega)
    have c2 := ht.cell c2
    have HB3 := Lib.hid (HB2.out.touch ht (fun h => h))
    have HT3 := Lib.hid (HT2.out.trans ht)
    have HR3 := Lib.hid (HR2.out.touch_no ht)
    have HD3 := Lib.hid hrd
    clear ht hrd HB2 HT2 HR2 HB HCK
    go_wp2_with fail
    refine (sl_concat4 w3 _ A none _ (lenB d.size) [] (sb d) _ 0 d.size c 0 cp rfl rfl (sb_length d) HR3.out (Rd_nil _ _) HD3.out (by have := lenB_le d.size; rw [sb_length]; simp only [List.length_nil]; omega) 5 43 _ _ rfl rfl).mono ?_
    rintro e w4 ⟨v, rfl, ho, ht⟩
    have HO := Lib.hid ho
    have HT4 := Lib.hid (HT3.out.trans ht)
    clear ho ht
    go_wp2_with fail
    go_ret2
    refine ⟨_, rfl, ?_, HT4.out⟩
    rw [HL.out, HX.out]
    have h := own_lower HO.out (base' := w.heap.size) (by have := HT3.out.size; omega)
    simpa [flat] using h
set_option maxHeartbeats 3200000 in
set_option maxRecDepth 100000 in
theorem f_put_mask (f : Fr) (hf : f.good) (hc : check9 f = 0) (hm : f.masked = true) (w : World) : Calls Tryz.prog 88 #[.agg f.cs] w fun e w' => ∃ v, e = .returned (.tuple #[v, .int .i64 0]) ∧ w'.ownsRow w.heap.size 5 1 v (fput f).length (u8s (fput f)) ∧ Touch NoS w w' := by
  have HCK : Hid (∀ W, Calls Tryz.prog 111 #[.agg f.cs] W fun e w' => e = .returned (.int .i64 (check9 f)) ∧ Touch NoS W w') := fun W => f_check f hf W
  obtain ⟨hop, hz, hform⟩ := check_ok hc
  obtain ⟨_, hk, _⟩ := hf
  clear hform
  obtain ⟨L, hL⟩ : ∃ L, L = fput f := ⟨_, rfl⟩
  rw [← hL]
  rw [hc] at HCK
  obtain ⟨fin, op, masked, k0, k1, k2, k3, d⟩ := f
  simp only [Fr.cs, Fr.key] at *
  subst hm
  obtain ⟨X, hX⟩ : ∃ X, X = first9 ⟨fin, op, true, k0, k1, k2, k3, d⟩ := ⟨_, rfl⟩
  obtain ⟨x0, t0, hB, hx0, hx1⟩ := lenB_head d.size
  have hLL : L = X :: ((lenB d.size).set 0 (x0 + 128) ++ ([k0, k1, k2, k3] ++ turn [k0, k1, k2, k3] 0 (sb d))) := by
    rw [hL, hX]
    simp only [fput, long9, if_true, Fr.key, hB, List.getD_cons_zero]
  simp only [first9] at hX
  have HL := Lib.hid hLL
  have HX := Lib.hid hX
  have HOR := Lib.hid (op_or op hop)
  have HK := Lib.hid hk
  have HBB := Lib.hid hB
  have hor0 := or128 x0 hx0 hx1
  have hop0 : 0 ≤ op := by omega
  have hop1 : op ≤ 10 := by omega
  clear hc hL hLL hX hop hk hB
  go_enter Tryz.func88, Tryz.ntmps88
  go_wp2_with fail
  refine (HCK.out _).mono ?_
  rintro e w1 ⟨rfl, ht⟩
  have hb := (Blk.new w 42 #[.bool fin, .int .i64 op, .bool true, .int .u8 k0, .int .u8 k1, .int .u8 k2, .int .u8 k3, .string d]).touch ht (fun h => h)
  have HT := Lib.hid (((Touch.refl NoS w).alloc (.cells #[.bool fin, .int .i64 op, .bool true, .int .u8 k0, .int .u8 k1, .int .u8 k2, .int .u8 k3, .string d] 42)).trans ht)
  have c0 := hb.cell 0
  have c1 := hb.cell 1
  have c2 := hb.cell 2
  have c7 := hb.cell 7
  simp at c0 c1 c2 c7
  have hlt := hb.lt
  have HB := Lib.hid hb
  have hor := HOR.out
  clear ht hb
  cases fin
  all_goals
    go_wp2_with fail
    refine (m_put d.size (by omega) _).mono ?_
    rintro e w2 ⟨v, rfl, ho, ht⟩
    have hll := lenB_length d.size
    obtain ⟨g, c, rfl, hlc, hgb⟩ := own_out ho (by rw [hll]; split; omega; split <;> omega)
    have HO2 := Lib.hid ho
    have HB2 := Lib.hid (HB.out.touch ht (fun h => h))
    have HT2 := Lib.hid (HT.out.trans ht)
    have c2 := ht.cell c2
    have c7 := ht.cell c7
    have hgl := (own_cell ho 0 (.int .u8 x0) (by rw [HBB.out]; rfl)).2.2
    clear ho ht hlc c0 c1 hor hll
    obtain ⟨w3, cp, hconv, ht, hrd, _, _, h23⟩ := conv_ex w2 d (by unfold maxLen; omega)
    have c2 := ht.cell c2
    have HB3 := Lib.hid (HB2.out.touch ht (fun h => h))
    have HO3 := Lib.hid (own_no HO2.out ht)
    have HT3 := Lib.hid (HT2.out.trans ht)
    have HD3 := Lib.hid hrd
    obtain ⟨l0, l1, l2⟩ := own_cell HO3.out 0 (.int .u8 x0) (by rw [HBB.out]; rfl)
    clear ht hrd HB2 HT2 HB HCK HO2
    have hll : (0 : Int) < (lenB d.size).length := by rw [HBB.out]; simp
    go_wp2_with fail
    obtain ⟨w4, hw4⟩ : ∃ w4, w4 = w3.setCell ⟨g, 0, none⟩ (.int .u8 (x0 + 128)) := ⟨_, rfl⟩
    rw [← hw4]
    have hgw : w.heap.size ≠ g := by omega
    have HB4 := Lib.hid (HB3.out.far (p := ⟨g, 0, none⟩) hgw (.int .u8 (x0 + 128)))
    rw [← hw4] at HB4
    have HO4 : Hid (w4.ownsRow w1.heap.size 5 1 (.slice (some ⟨g, 0, none⟩) (lenB d.size).length c) (lenB d.size).length (u8s ((lenB d.size).set 0 (x0 + 128)))) := by
      have := own_set HO3.out 0 (by rw [HBB.out]; simp) (.int .u8 (x0 + 128))
      rw [hw4]
      simp only [u8s, List.map_set] at this ⊢
      exact this
    have ht34 : Touch (At g) w3 w4 := by rw [hw4]; exact (Touch.refl _ _).setAt _ _
    have HT4 : Hid (Touch NoS w w4) := HT3.out.at_new ht34 (by omega)
    have HD4 := Lib.hid (HD3.out.touch ht34 (fun a ha he => by injection ha with ha; subst ha; have : w2.heap.size = g := he; omega))
    have c3 := HB4.out.cell 3
    have c4 := HB4.out.cell 4
    have c5 := HB4.out.cell 5
    have c6 := HB4.out.cell 6
    simp at c3 c4 c5 c6
    clear hw4 ht34 HT3 HD3 HB3 HO3 l0 l1 l2 c2 c7 hconv hor0
    have HAP := fun W (h : Touch NoS w4.drew W) => m_apply_ k0 k1 k2 k3 HK.out 0 0 rfl (by omega) _ (sb d) d.size cp (sb_length d) W ((HD4.out.touch_no (Touch.refl _ _).drew).touch_no h) (sb_in d) (by rw [sb_length]; omega)
    have HAPP := Lib.hid HAP
    have htd : Touch NoS w4.drew w4.drew := Touch.refl _ _
    clear HAP
    go_region_held3 (fun w' => Touch NoS w4.drew w' ∧ w'.cell? ⟨w.heap.size, 3, none⟩ = some (.int .u8 k0) ∧ w'.cell? ⟨w.heap.size, 4, none⟩ = some (.int .u8 k1) ∧ w'.cell? ⟨w.heap.size, 5, none⟩ = some (.int .u8 k2) ∧ w'.cell? ⟨w.heap.size, 6, none⟩ = some (.int .u8 k3))
      (first | go_keep | (refine ⟨?_, ?_, ?_, ?_, ?_⟩ <;> first | assumption | go_keep))
      (first | (go_at_call 113; refine (HAPP.out _ ?_).mono ?_; assumption; rintro e w5 ⟨g5, rfl, hg5, hrd5, ht⟩; have q3 := ht.cell (w := w4.drew) c3; have q4 := ht.cell (w := w4.drew) c4; have q5 := ht.cell (w := w4.drew) c5; have q6 := ht.cell (w := w4.drew) c6))
    have ht' : Touch NoS w4 w5 := (Touch.refl _ w4).drew.trans ht
    have HB5 := Lib.hid (HB4.out.touch ht' (fun h => h))
    have HO5 := Lib.hid (own_no HO4.out ht')
    have HT5 := Lib.hid (HT4.out.trans ht')
    have HD5 := Lib.hid hrd5
    clear ht ht' hrd5 HB4 HO4 HT4 HD4 c3 c4 c5 c6 q3 q4 q5 q6 HAPP htd
    go_wp2_with fail
    refine (sl_concat4 w5 _ (some ⟨g, 0, none⟩) (some ⟨w.heap.size, 3, none⟩) (some ⟨g5, 0, none⟩) ((lenB d.size).set 0 (x0 + 128)) [k0, k1, k2, k3] (turn [k0, k1, k2, k3] 0 (sb d)) (lenB d.size).length 4 d.size c 4 d.size (by simp) rfl (by rw [turn_length, sb_length]) (Row.of_own HO5.out).rd (HB5.out.rd 3 _ (fun j u hu => by rcases j with _ | _ | _ | _ | j <;> simp [u8s] at hu ⊢ <;> exact hu)) HD5.out (by have := lenB_le d.size; rw [turn_length, sb_length]; simp; omega) 5 43 _ _ rfl rfl).mono ?_
    rintro e w6 ⟨v, rfl, ho, ht⟩
    have HO := Lib.hid ho
    have HT6 := Lib.hid (HT5.out.trans ht)
    clear ho ht
    go_wp2_with fail
    go_ret2
    refine ⟨_, rfl, ?_, HT6.out⟩
    rw [HL.out, HX.out]
    have h := own_lower HO.out (base' := w.heap.size) (by have := HT5.out.size; omega)
    simpa using h
theorem f_put (f : Fr) (hf : f.good) (hc : check9 f = 0) (w : World) : Calls Tryz.prog 88 #[.agg f.cs] w fun e w' => ∃ v, e = .returned (.tuple #[v, .int .i64 0]) ∧ w'.ownsRow w.heap.size 5 1 v (fput f).length (u8s (fput f)) ∧ Touch NoS w w' := by
  cases hm : f.masked
  · exact f_put_plain f hf hc hm w
  · exact f_put_mask f hf hc hm w
end Go.Proofs.YtlnabpoohnphiaaGreat
/- frame: Get. -/
namespace Go.Proofs.YtlnabpoohnphiaaGreat
open Go.RowKit
set_option linter.unusedSimpArgs false
set_option linter.unusedVariables false

theorem and128 (x : Int) (h0 : 0 ≤ x) (h1 : x ≤ 255) : bits .and .u8 x 128 = if 128 ≤ x then 128 else 0 := by
  have h : ∀ n : Fin 256, bits .and .u8 (n.val : Int) 128 = if 128 ≤ (n.val : Int) then 128 else 0 := by decide +kernel
  have := h ⟨x.toNat, by omega⟩
  simp only [show ((x.toNat : Nat) : Int) = x from by omega] at this
  exact this
theorem and112 (x : Int) (h0 : 0 ≤ x) (h1 : x ≤ 255) : bits .and .u8 x 112 = x / 16 % 8 * 16 := by
  have h : ∀ n : Fin 256, bits .and .u8 (n.val : Int) 112 = (n.val : Int) / 16 % 8 * 16 := by decide +kernel
  have := h ⟨x.toNat, by omega⟩
  simp only [show ((x.toNat : Nat) : Int) = x from by omega] at this
  exact this
theorem and15 (x : Int) (h0 : 0 ≤ x) (h1 : x ≤ 255) : bits .and .u8 x 15 = x % 16 := by
  have h : ∀ n : Fin 256, bits .and .u8 (n.val : Int) 15 = (n.val : Int) % 16 := by decide +kernel
  have := h ⟨x.toNat, by omega⟩
  simp only [show ((x.toNat : Nat) : Int) = x from by omega] at this
  exact this
theorem and127 (x : Int) (h0 : 0 ≤ x) (h1 : x ≤ 255) : bits .and .u8 x 127 = x % 128 := by
  have h : ∀ n : Fin 256, bits .and .u8 (n.val : Int) 127 = (n.val : Int) % 128 := by decide +kernel
  have := h ⟨x.toNat, by omega⟩
  simp only [show ((x.toNat : Nat) : Int) = x from by omega] at this
  exact this

theorem two_blocks (w : World) (t1 t2 : TypeId) (c1 c2 : Array Value) : Blk ((w.alloc (.cells c1 t1)).alloc (.cells c2 t2)).drew w.heap.size t1 c1 ∧ Blk ((w.alloc (.cells c1 t1)).alloc (.cells c2 t2)).drew (w.heap.size + 1) t2 c2 ∧ Touch NoS w ((w.alloc (.cells c1 t1)).alloc (.cells c2 t2)).drew := by
  refine ⟨((Blk.new w t1 c1).alloc _).drew, ?_, (((Touch.refl _ _).alloc _).alloc _).drew⟩
  have := (Blk.new (w.alloc (.cells c1 t1)) t2 c2).drew
  simpa using this
theorem setRow_same {w : World} {g : Nat} {t : TypeId} {cs : Array Value} (h : Blk w g t cs) : w.setRow g cs = w := by
  have hh : (w.setRow g cs).heap = w.heap := by
    apply Array.ext_getElem?
    intro k
    by_cases hk : k = g
    · subst hk
      rw [setRow_heap w k cs cs t (0, 0) h]
      exact h.symm
    · exact setRow_other w g k cs hk
  unfold World.setRow at hh ⊢
  cases w
  simp only at hh ⊢
  rw [hh]
theorem fr_info : (Tryz.prog.info? 42).map (·.size) = some 8 := by kernel_rfl
theorem fr_one (f : Fr) : f.cs.all (·.oneCell') = true := by simp [Fr.cs, Value.oneCell']
theorem fr_load {w : World} {g : Nat} {t : TypeId} {cs : Array Value} (h : Blk w g t cs) (hs : cs.size = 8) : (loadVar 42 ⟨g, 0, none⟩).run Tryz.prog w = .ok (.agg cs) w :=
  run_loadVar_row w g t 42 cs (0, 0) _ h Tryz.underlying42 rfl (by rw [hs]; exact fr_info)
theorem Blk.row {w : World} {g : Nat} {t : TypeId} {old cs : Array Value} (h : Blk w g t old) : Blk (w.setRow g cs) g t cs := setRow_heap w g old cs t (0, 0) h
theorem Touch.row {S : Nat → Prop} {a w : World} (h : Touch S a w) {g : Nat} (hg : a.heap.size ≤ g) (cs : Array Value) : Touch S a (w.setRow g cs) :=
  h.trans' (S' := At g) ⟨rfl, rfl, rfl, by simp, fun k hk hn => setRow_other w g k cs hn⟩ fun i hi he => by
    have he' : i = g := he
    omega
theorem get_results (tmps : Array Value) (w : World) (f : Fr) (g : Nat) (n e : Int) (h4 : tmps.getD 4 undef = .pointer (some ⟨g, 0, none⟩)) (h5 : tmps.getD 5 undef = .int .i64 n) (h6 : tmps.getD 6 undef = .int .i64 e)
    (hb : Blk w g 42 f.cs) : (results Tryz.f122 tmps).run Tryz.prog w = .ok (.tuple #[.agg f.cs, .int .i64 n, .int .i64 e]) w := by
  have hld := fr_load hb rfl
  obtain ⟨a, b, c, d, e', h, i, j⟩ := f
  have c0 := hb.cell 0
  have c1 := hb.cell 1
  have c2 := hb.cell 2
  have c3 := hb.cell 3
  have c4 := hb.cell 4
  have c5 := hb.cell 5
  have c6 := hb.cell 6
  have c7 := hb.cell 7
  simp only [Array.getD_eq_getD_getElem?] at h4 h5 h6
  simp [Fr.cs] at c0 c1 c2 c3 c4 c5 c6 c7
  simp [results, Tryz.results122, go_sem, h4, h5, h6, c0, c1, c2, c3, c4, c5, c6, c7, Fr.cs]
/-- The frame behind its length: n bytes of data, from place at on. -/
def fdata (l : List Int) (fin : Bool) (op : Int) (masked : Bool) (K : List Int) (n : Int) (at_ : Nat) : Fr × Nat × Int :=
  if ((l.length - at_ : Nat) : Int) < n then (Fr.zero, 0, 90)
  else (⟨fin, op, masked, K.getD 0 0, K.getD 1 0, K.getD 2 0, K.getD 3 0, Go.strOfNums (turn K 0 ((l.drop at_).take n.toNat))⟩, at_ + n.toNat, 0)
def fmask (l : List Int) (fin : Bool) (op : Int) (n : Int) (at_ : Nat) : Fr × Nat × Int :=
  if 128 ≤ l.getD 1 0 then (if l.length < at_ + 4 then (Fr.zero, 0, 90) else fdata l fin op true ((l.drop at_).take 4) n (at_ + 4))
  else fdata l fin op false [0, 0, 0, 0] n at_
def flen (l : List Int) (most : Int) (fin : Bool) (op : Int) : Fr × Nat × Int :=
  let g := getLen (l.drop 1)
  if g.2.2 = 81 then (Fr.zero, 0, 91)
  else if g.2.2 ≠ 0 then (Fr.zero, 0, 90)
  else if most < 0 ∨ most < g.1 then (Fr.zero, 0, 92)
  else fmask l fin op g.1 (1 + g.2.1)
/-- The frame that bytes begin with. -/
def fget (l : List Int) (most : Int) : Fr × Nat × Int :=
  if l = [] then (Fr.zero, 0, 90)
  else if l.getD 0 0 / 16 % 8 ≠ 0 ∨ known9 (l.getD 0 0 % 16) = false ∨ (control9 (l.getD 0 0 % 16) = true ∧ (l.getD 0 0 < 128 ∨ (1 < l.length ∧ 125 < l.getD 1 0 % 128))) then (Fr.zero, 0, 91)
  else flen l most (decide (128 ≤ l.getD 0 0)) (l.getD 0 0 % 16)

set_option maxHeartbeats 3200000 in
set_option maxRecDepth 100000 in
theorem f_get_none (A : Option Addr) (cap : Nat) (most : Int) (w : World) :
    Calls Tryz.prog 122 #[.slice A 0 cap, .int .i64 most] w fun e w' =>
      e = .returned (.tuple #[.agg Fr.zero.cs, .int .i64 0, .int .i64 90]) ∧ Touch NoS w w' := by
  go_enter Tryz.func122, Tryz.ntmps122
  go_wp2
  refine bodyPost_ret (v := .tuple #[.agg Fr.zero.cs, .int .i64 0, .int .i64 90]) (by simp [results, Tryz.results122, go_sem, Fr.zero, Fr.cs]) rfl ⟨rfl, ?_⟩
  exact ((Touch.refl _ _).alloc _)
set_option maxHeartbeats 3200000 in
set_option maxRecDepth 100000 in
theorem f_get_bad (g off : Nat) (n cap : Nat) (hn : 0 < n) (hnc : n ≤ cap) (hc : cap ≤ maxLen) (x o y z v : Int) (fin cn kn : Bool) (most : Int) (w : World)
    (hg : g < w.heap.size) (h0 : w.cell? ⟨g, off, none⟩ = some (.int .u8 x)) (h1 : 1 < n → w.cell? ⟨g, off + 1, none⟩ = some (.int .u8 v))
    (hy : bits .and .u8 x 128 = y) (hyf : (y != 0) = fin) (ho : bits .and .u8 x 15 = o) (ho0 : 0 ≤ o) (ho1 : o ≤ 15) (hz : bits .and .u8 x 112 = z) (hv : bits .and .u8 v 127 = v % 128)
    (hk : known9 o = kn) (hcn : control9 o = cn)
    (hbad : z ≠ 0 ∨ kn = false ∨ (cn = true ∧ (fin = false ∨ (1 < n ∧ 125 < v % 128)))) :
    Calls Tryz.prog 122 #[.slice (some ⟨g, off, none⟩) n cap, .int .i64 most] w fun e w' =>
      e = .returned (.tuple #[.agg Fr.zero.cs, .int .i64 0, .int .i64 91]) ∧ Touch NoS w w' := by
  have HKN := Lib.hid (f_known o)
  have HCN := Lib.hid (f_control o)
  rw [hk] at HKN
  rw [hcn] at HCN
  unfold maxLen at hc
  have hne : ((n : Int) == 0) = false := by rw [beq_eq_false_iff_ne]; omega
  have hpos' : (0 : Int) < n := by omega
  have H1 := Lib.hid h1
  have HV := Lib.hid hv
  clear hk hcn h1 hv
  by_cases hz0 : z = 0
  · subst hz0
    cases kn with
    | false =>
      clear hbad
      go_enter Tryz.func122, Tryz.ntmps122
      go_wp2_with fail
      go_region
      go_wp2_with fail
      refine (HCN.out _).mono ?_
      rintro e w1 ⟨rfl, hw1⟩
      obtain ⟨hb4, hb7, ht⟩ : Blk w1 w.heap.size 42 Fr.zero.cs ∧ Blk w1 (w.heap.size + 1) 42 (Fr.cs ⟨fin, o, false, 0, 0, 0, 0, ⟨#[]⟩⟩) ∧ Touch NoS w w1 := by rw [← hw1]; exact two_blocks _ _ _ _ _
      have ca := ht.cell h0
      have c0 := hb7.cell 0
      have c1 := hb7.cell 1
      simp [Fr.cs] at c0 c1
      have HB4 := Lib.hid hb4
      have HT := Lib.hid ht
      have gl : g < w1.heap.size := by have := ht.size; omega
      clear hw1 hb4 hb7 ht h0
      go_wp2_with fail
      refine (HKN.out _).mono ?_
      rintro e w2 ⟨rfl, rfl⟩
      go_wp2_with (refine wpList_store_row rfl 42 (.tmp 4) (.tmp 66) rfl w.heap.size Fr.zero.cs rfl rfl 42 Fr.zero.cs HB4.out fr_info rfl (fr_one _) ?_; rw [setRow_same HB4.out])
      refine bodyPost_ret (v := .tuple #[.agg Fr.zero.cs, .int .i64 0, .int .i64 91]) (get_results _ _ _ _ _ _ rfl rfl rfl HB4.out) rfl ⟨rfl, HT.out⟩
    | true =>
      obtain ⟨rfl, hbad2⟩ : cn = true ∧ (fin = false ∨ (1 < n ∧ 125 < v % 128)) := by
        rcases hbad with h | h | h
        · exact absurd rfl h
        · cases h
        · exact h
      clear hbad
      cases fin with
      | false =>
        clear hbad2
        go_enter Tryz.func122, Tryz.ntmps122
        go_wp2_with fail
        go_region
        go_wp2_with fail
        refine (HCN.out _).mono ?_
        rintro e w1 ⟨rfl, hw1⟩
        obtain ⟨hb4, hb7, ht⟩ : Blk w1 w.heap.size 42 Fr.zero.cs ∧ Blk w1 (w.heap.size + 1) 42 (Fr.cs ⟨false, o, false, 0, 0, 0, 0, ⟨#[]⟩⟩) ∧ Touch NoS w w1 := by rw [← hw1]; exact two_blocks _ _ _ _ _
        have ca := ht.cell h0
        have c0 := hb7.cell 0
        have c1 := hb7.cell 1
        simp [Fr.cs] at c0 c1
        have HB4 := Lib.hid hb4
        have HT := Lib.hid ht
        have gl : g < w1.heap.size := by have := ht.size; omega
        clear hw1 hb4 hb7 ht h0
        go_wp2_with fail
        refine (HKN.out _).mono ?_
        rintro e w2 ⟨rfl, rfl⟩
        go_wp2_with (refine wpList_store_row rfl 42 (.tmp 4) (.tmp 66) rfl w.heap.size Fr.zero.cs rfl rfl 42 Fr.zero.cs HB4.out fr_info rfl (fr_one _) ?_; rw [setRow_same HB4.out])
        refine bodyPost_ret (v := .tuple #[.agg Fr.zero.cs, .int .i64 0, .int .i64 91]) (get_results _ _ _ _ _ _ rfl rfl rfl HB4.out) rfl ⟨rfl, HT.out⟩
      | true =>
        obtain ⟨hn1, hv125⟩ : 1 < n ∧ 125 < v % 128 := by
          rcases hbad2 with h | h
          · cases h
          · exact h
        clear hbad2
        have hn1' : (1 : Int) < n := by omega
        have hv := HV.out
        go_enter Tryz.func122, Tryz.ntmps122
        go_wp2_with fail
        go_region
        go_wp2_with fail
        refine (HCN.out _).mono ?_
        rintro e w1 ⟨rfl, hw1⟩
        obtain ⟨hb4, hb7, ht⟩ : Blk w1 w.heap.size 42 Fr.zero.cs ∧ Blk w1 (w.heap.size + 1) 42 (Fr.cs ⟨true, o, false, 0, 0, 0, 0, ⟨#[]⟩⟩) ∧ Touch NoS w w1 := by rw [← hw1]; exact two_blocks _ _ _ _ _
        have ca := ht.cell h0
        have c0 := hb7.cell 0
        have c1 := hb7.cell 1
        simp [Fr.cs] at c0 c1
        have HB4 := Lib.hid hb4
        have HT := Lib.hid ht
        have gl : g < w1.heap.size := by have := ht.size; omega
        have cb := ht.cell (H1.out hn1)
        clear hw1 hb4 hb7 ht h0
        go_wp2_with fail
        refine (HKN.out _).mono ?_
        rintro e w2 ⟨rfl, rfl⟩
        go_wp2_with (refine wpList_store_row rfl 42 (.tmp 4) (.tmp 66) rfl w.heap.size Fr.zero.cs rfl rfl 42 Fr.zero.cs HB4.out fr_info rfl (fr_one _) ?_; rw [setRow_same HB4.out])
        refine bodyPost_ret (v := .tuple #[.agg Fr.zero.cs, .int .i64 0, .int .i64 91]) (get_results _ _ _ _ _ _ rfl rfl rfl HB4.out) rfl ⟨rfl, HT.out⟩
  · have hzb : (z != 0) = true := by rw [bne_iff_ne]; exact hz0
    clear hbad hz0
    go_enter Tryz.func122, Tryz.ntmps122
    go_wp2_with fail
    go_region
    go_wp2_with fail
    refine (HCN.out _).mono ?_
    rintro e w1 ⟨rfl, hw1⟩
    obtain ⟨hb4, hb7, ht⟩ : Blk w1 w.heap.size 42 Fr.zero.cs ∧ Blk w1 (w.heap.size + 1) 42 (Fr.cs ⟨fin, o, false, 0, 0, 0, 0, ⟨#[]⟩⟩) ∧ Touch NoS w w1 := by rw [← hw1]; exact two_blocks _ _ _ _ _
    have ca := ht.cell h0
    have c0 := hb7.cell 0
    have c1 := hb7.cell 1
    simp [Fr.cs] at c0 c1
    have HB4 := Lib.hid hb4
    have HT := Lib.hid ht
    have gl : g < w1.heap.size := by have := ht.size; omega
    clear hw1 hb4 hb7 ht h0
    go_wp2_with (refine wpList_store_row rfl 42 (.tmp 4) (.tmp 66) rfl w.heap.size Fr.zero.cs rfl rfl 42 Fr.zero.cs HB4.out fr_info rfl (fr_one _) ?_; rw [setRow_same HB4.out])
    refine bodyPost_ret (v := .tuple #[.agg Fr.zero.cs, .int .i64 0, .int .i64 91]) (get_results _ _ _ _ _ _ rfl rfl rfl HB4.out) rfl ⟨rfl, HT.out⟩

theorem Touch.below' {a w w' : World} {B : Nat} (h : Touch NoS a w) (k : Below B w w') (hB : a.heap.size ≤ B) : Touch NoS a w' :=
  ⟨k.os.trans h.os, k.tape.trans h.tape, k.output.trans h.output, Nat.le_trans h.size k.size, fun i hi hn => (k.block i (by omega)).trans (h.block i hi hn)⟩
theorem m_get_ (A : Option Addr) (l : List Int) (n cap : Nat) (hn : l.length = n) (w : World) (hr : Rd w A (u8s l)) (hb : bytesIn l) (hl : n ≤ cap) (hc : cap ≤ maxLen) (hl2 : n ≤ 4611686018427387904) :
    Calls Tryz.prog 138 #[.slice A n cap] w fun e w' =>
      e = .returned (.tuple #[.int .u64 (getLen l).1, .int .i64 (getLen l).2.1, .int .i64 (getLen l).2.2]) ∧ Touch NoS w w' := by
  subst hn
  exact m_get A l cap w hr hb hl hc hl2
end Go.Proofs.YtlnabpoohnphiaaGreat
/- mask.Key; cut: Masked. -/
namespace Go.Proofs.YtlnabpoohnphiaaGreat
open Go.RowKit
set_option linter.unusedSimpArgs false
set_option linter.unusedVariables false

set_option maxHeartbeats 1600000 in
set_option maxRecDepth 100000 in
theorem m_key (n : Int) (h0 : 0 ≤ n) (h1 : n ≤ 4294967295) (w : World) : Calls Tryz.prog 110 #[.int .u32 n] w fun e w' =>
    e = .returned (.agg #[.int .u8 (n / 16777216), .int .u8 (n / 65536 % 256), .int .u8 (n / 256 % 256), .int .u8 (n % 256)]) ∧ Touch NoS w w' := by
  go_enter Tryz.func110, Tryz.ntmps110
  go_wp2_with fail
  refine bodyPost_ret (v := .agg #[.int .u8 (n / 16777216), .int .u8 (n / 65536 % 256), .int .u8 (n / 256 % 256), .int .u8 (n % 256)]) (by simp [results, Tryz.results110, go_sem]) rfl ⟨rfl, (Touch.refl _ _).alloc _⟩

/-- A frame with a number's mask. -/
def mask1 (f : Fr) (d : Int) : Fr := ⟨f.fin, f.op, true, d / 16777216, d / 65536 % 256, d / 256 % 256, d % 256, f.data⟩
def maskAll (l : List Fr) (ds : List Int) : List Fr := List.zipWith mask1 l ds
/-- The first k of them masked. -/
def maskK (l : List Fr) (ds : List Int) (k : Nat) : List Fr := (maskAll l ds).take k ++ l.drop k
theorem maskAll_length (l : List Fr) (ds : List Int) (h : l.length ≤ ds.length) : (maskAll l ds).length = l.length := by
  unfold maskAll
  rw [List.length_zipWith]
  omega
theorem maskK_length (l : List Fr) (ds : List Int) (k : Nat) (h : l.length ≤ ds.length) (hk : k ≤ l.length) : (maskK l ds k).length = l.length := by
  unfold maskK
  rw [List.length_append, List.length_take, maskAll_length l ds h, List.length_drop]
  omega
theorem maskK_split (l : List Fr) (ds : List Int) (k : Nat) (h : l.length ≤ ds.length) (hk : k < l.length) : ∃ A B, A.length = k ∧ maskK l ds k = A ++ l[k] :: B ∧ maskK l ds (k + 1) = A ++ mask1 l[k] (ds[k]'(by omega)) :: B := by
  have hM := maskAll_length l ds h
  refine ⟨(maskAll l ds).take k, l.drop (k + 1), by rw [List.length_take, hM]; omega, ?_, ?_⟩
  · unfold maskK
    rw [List.drop_eq_getElem_cons hk]
  · unfold maskK
    have e : (maskAll l ds).take (k + 1) = (maskAll l ds).take k ++ [(maskAll l ds)[k]'(by omega)] := by simp
    rw [e, List.append_assoc]
    have e2 : (maskAll l ds)[k]'(by omega) = mask1 l[k] (ds[k]'(by omega)) := by unfold maskAll; rw [List.getElem_zipWith]
    rw [e2]
    rfl
theorem own_set8 {w : World} {base g c n z : Nat} {e : TypeId} {xs : List Value} (h : w.ownsRow base e z (.slice (some ⟨g, 0, none⟩) n c) n xs) (j : Nat) (u : Value) : (w.setCell ⟨g, j, none⟩ u).ownsRow base e z (.slice (some ⟨g, 0, none⟩) n c) n (xs.set j u) := by
  refine ⟨by rw [List.length_set]; exact h.1, ?_⟩
  rcases h.2 with ⟨hv, _⟩ | ⟨g', cap, cur, hv, hb, hg, hc, hm, hs, ht⟩
  · cases hv
  · injection hv with h1 _ h3
    injection h1 with h1
    injection h1 with h1
    subst h1
    subst h3
    refine .inr ⟨g, c, cur.setIfInBounds j u, rfl, hb, Blk.set_ (t := e) hg j u, hc, hm, by simpa using hs, ?_⟩
    rw [← ht]
    simp only [Array.toList_setIfInBounds, List.take_set]
theorem set_mid (A : List Fr) (c : List Value) (R : List Value) (j : Nat) (hj : j < c.length) (u : Value) : (frs A ++ (c ++ R)).set (A.length * 8 + j) u = frs A ++ (c.set j u ++ R) := by
  rw [List.set_append_right _ _ (by rw [frs_length]; omega), frs_length, show A.length * 8 + j - A.length * 8 = j from by omega, List.set_append_left _ _ hj]
theorem u32_at {w : World} {A : Option Addr} {l : List Int} (h : Rd w A (l.flatMap fun x => [.int .u32 x])) (k : Nat) (hk : k < l.length) : ∃ g off, A = some ⟨g, off, none⟩ ∧ g < w.heap.size ∧ w.cell? ⟨g, off + k, none⟩ = some (.int .u32 l[k]) := by
  have hf : (l.flatMap fun x => [Value.int .u32 x]) = l.map (Value.int .u32) := by rw [List.map_eq_flatMap]
  rw [hf] at h
  obtain ⟨g, off, hA, hg, hc⟩ := h (by intro he; simp at he; rw [he] at hk; simp at hk)
  exact ⟨g, off, hA, hg, hc k _ (by simp [hk])⟩

end Go.Proofs.YtlnabpoohnphiaaGreat
