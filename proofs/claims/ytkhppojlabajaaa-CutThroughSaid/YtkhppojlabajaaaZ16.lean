/- cut: Bytes: the function that adds a frame. | frame: Get, behind its first byte. -/
import Derived.Test.YtkhppojlabajaaaZ08
import Derived.Test.YtkhppojlabajaaaZ13
import Derived.Test.YtkhppojlabajaaaZ14
import Derived.Deep.RegionLawGrows
/- cut: Bytes: the function that adds a frame. -/
namespace Go.Proofs.Ytkhppojlabajaaa
open Go.RowKit
set_option linter.unusedSimpArgs false
set_option linter.unusedVariables false

theorem rd_cells {w : World} {A : Option Addr} {xs : List Value} (h : Rd w A xs) : ∀ b, A = some b → ∀ j u, xs[j]? = some u → w.cell? (b.add j) = some u := fun b hb j u hu => by
  obtain ⟨g, off, he, _, hc⟩ := h (by rintro rfl; simp at hu)
  rw [hb] at he
  injection he with he
  subst he
  rw [add_plain]
  exact hc j u hu

set_option maxHeartbeats 3200000 in
set_option maxRecDepth 100000 in
theorem k_add_ok (f : Fr) (hf : f.good) (hc : check9 f = 0) (B base : Nat) (v : Value) (L : List Int) (n : Nat) (hn : L.length = n) (w : World) (hb : Blk w B 36 #[v]) (ho : w.ownsRow base 5 1 v n (u8s L)) (hbs : base ≤ w.heap.size) (hl : n ≤ 1000000000) (hz : (fput f).length ≤ 100000) :
    Calls Try.prog 41 #[.agg f.cs, .pointer (some ⟨B, 0, none⟩)] w fun e w' => ∃ v', e = .returned (.int .i64 0) ∧ Blk w' B 36 #[v'] ∧ w'.ownsRow base 5 1 v' (n + (fput f).length) (u8s (L ++ fput f)) ∧ Touch (At B) w w' := by
  have HP := Lib.hid (fun W => f_put f hf hc W)
  have hpos : 0 < (fput f).length := by rw [fput_length]; unfold size9; omega
  obtain ⟨M, hM⟩ : ∃ M, M = fput f := ⟨_, rfl⟩
  rw [← hM] at HP hpos hz ⊢
  obtain ⟨m, hm⟩ : ∃ m, m = M.length := ⟨_, rfl⟩
  rw [← hm] at HP hpos hz ⊢
  have HMM := Lib.hid hm
  have HU : Hid (u8s L ++ u8s M = u8s (L ++ M)) := by show u8s L ++ u8s M = u8s (L ++ M); rw [u8s_append]
  have HLN : Hid ((u8s L).length = n * 1) := by show (u8s L).length = n * 1; rw [u8s_length, hn, Nat.mul_one]
  have HB := Lib.hid hb
  have HO := Lib.hid ho
  have b0 := hb.cell 0
  have blt := hb.lt
  simp at b0
  obtain ⟨j, hj, hy0, hy1, hy2⟩ := info_u8
  have hown := ho.2
  clear hf hc hM hm hn hb ho
  obtain ⟨fin, op, masked, k0, k1, k2, k3, d⟩ := f
  simp only [Fr.cs] at *
  rcases hown with ⟨rfl, hn0⟩ | ⟨g, cap, cur, rfl, hbg, _, hcap, hcm, _, _⟩
  · subst hn0
    go_enter Try.func41, Try.ntmps41
    go_wp2_with fail
    refine (HP.out _).mono ?_
    rintro e w2 ⟨v2, rfl, ho2, ht2⟩
    obtain ⟨g2, c2, rfl, hc2, _⟩ := own_out ho2 hpos
    have hb2 := (HB.out.alloc (.cells #[.bool fin, .int .i64 op, .bool masked, .int .u8 k0, .int .u8 k1, .int .u8 k2, .int .u8 k3, .string d] 44)).touch ht2 (fun h => h)
    have b0 := hb2.cell 0
    have f0 := hb2.frozen 0
    have blt := hb2.lt
    simp at b0
    obtain ⟨A3, c3, hv3, _, _, hrd2, _, _⟩ := own_cases ho2
    injection hv3 with e3 _ e4
    subst e3 e4
    have HR2 := Lib.hid hrd2
    have HB2 := Lib.hid hb2
    have HT2 : Hid (Touch NoS w w2) := ((Touch.refl NoS w).alloc _).trans ht2
    clear ho2 ht2 hb2 hrd2
    go_wp2_with (at_builtin; refine wpList_append_grows _ rfl (.tmp 16) (.tmp 17) 36 rfl 5 j _ 1 1 Try.underlying36 hj hy0 hy1 hy2 rfl (by decide) none 0 0 (u8s L) rfl (fun _ => ⟨rfl, rfl⟩) HLN.out (fun b hb => by cases hb) ⟨g2, 0, none⟩ m c2 (u8s M) rfl (by rw [u8s_length, ← HMM.out, Nat.mul_one]) (rd_cells HR2.out _ rfl) (u8s_one _) (by omega) (by unfold maxLen; omega) (by omega) ?_)
    intro v3 w3 ho3 hgr
    rw [HU.out] at ho3
    obtain ⟨g3, c3, rfl, _, _⟩ := own_out ho3 (by omega)
    have hb3 := HB2.out.grown hgr (by simp)
    have b0 := hb3.cell 0
    have f0 := hb3.frozen 0
    have blt := hb3.lt
    simp at b0
    have HB3 := Lib.hid hb3
    have HO3 := Lib.hid ho3
    have HT3 := Lib.hid (HT2.out.grown hgr (by intro k hk; cases hk))
    have hs2 : w.heap.size ≤ w2.heap.size := HT2.out.size
    clear ho3 hgr hb3 HB2 HT2 HR2 HB HO
    go_wp2
    go_ret
    refine ⟨.slice (some ⟨g3, 0, none⟩) m c3, rfl, HB3.out.set_ 0 _, ?_, HT3.out.of_no.setAt 0 _⟩
    have h := own_far (own_lower HO3.out (Nat.le_trans hbs hs2)) HB3.out (by decide) 0 (.slice (some ⟨g3, 0, none⟩) m c3)
    exact (by rw [Nat.zero_add]; exact h)
  · have i1 : (n : Int) ≤ cap := by omega
    have hcm' : cap ≤ 9223372036854775807 := by unfold maxLen at hcm; omega
    clear hcm
    go_enter Try.func41, Try.ntmps41
    go_wp2_with fail
    refine (HP.out _).mono ?_
    rintro e w2 ⟨v2, rfl, ho2, ht2⟩
    obtain ⟨g2, c2, rfl, hc2, _⟩ := own_out ho2 hpos
    have hb2 := (HB.out.alloc (.cells #[.bool fin, .int .i64 op, .bool masked, .int .u8 k0, .int .u8 k1, .int .u8 k2, .int .u8 k3, .string d] 44)).touch ht2 (fun h => h)
    have b0 := hb2.cell 0
    have f0 := hb2.frozen 0
    have blt := hb2.lt
    simp at b0
    obtain ⟨A3, c3, hv3, _, _, hrd2, _, _⟩ := own_cases ho2
    injection hv3 with e3 _ e4
    subst e3 e4
    have HT2 : Hid (Touch NoS w w2) := ((Touch.refl NoS w).alloc _).trans ht2
    obtain ⟨A5, c5, hv5, _, _, hrd5, _, _⟩ := own_cases (own_no HO.out HT2.out)
    injection hv5 with e5 _ e6
    subst e5 e6
    have HR5 := Lib.hid hrd5
    have HR2 := Lib.hid hrd2
    have HB2 := Lib.hid hb2
    clear ho2 ht2 hb2 hrd2 hrd5
    go_wp2_with (at_builtin; refine wpList_append_grows _ rfl (.tmp 16) (.tmp 17) 36 rfl 5 j _ 1 1 Try.underlying36 hj hy0 hy1 hy2 rfl (by decide) (some ⟨g, 0, none⟩) n n (u8s L) rfl (fun h => by cases h) HLN.out (rd_cells HR5.out) ⟨g2, 0, none⟩ m c2 (u8s M) rfl (by rw [u8s_length, ← HMM.out, Nat.mul_one]) (rd_cells HR2.out _ rfl) (u8s_one _) (by omega) (by unfold maxLen; omega) (by omega) ?_)
    intro v3 w3 ho3 hgr
    rw [HU.out] at ho3
    obtain ⟨g3, c3, rfl, _, _⟩ := own_out ho3 (by omega)
    have hb3 := HB2.out.grown hgr (by simp)
    have b0 := hb3.cell 0
    have f0 := hb3.frozen 0
    have blt := hb3.lt
    simp at b0
    have HB3 := Lib.hid hb3
    have HO3 := Lib.hid ho3
    have HT3 := Lib.hid (HT2.out.grown hgr (by intro k hk; cases hk))
    have hs2 : w.heap.size ≤ w2.heap.size := HT2.out.size
    clear ho3 hgr hb3 HB2 HT2 HR2 HB HO
    go_wp2
    go_ret
    refine ⟨.slice (some ⟨g3, 0, none⟩) (n + m) c3, rfl, HB3.out.set_ 0 _, ?_, HT3.out.of_no.setAt 0 _⟩
    have h := own_far (own_lower HO3.out (Nat.le_trans hbs hs2)) HB3.out (by decide) 0 (.slice (some ⟨g3, 0, none⟩) (n + m) c3)
    exact h

set_option maxHeartbeats 3200000 in
set_option maxRecDepth 100000 in
theorem k_add_no (f : Fr) (hf : f.good) (hc : check9 f ≠ 0) (B base : Nat) (v : Value) (L : List Int) (n : Nat) (hn : L.length = n) (w : World) (hb : Blk w B 36 #[v]) (ho : w.ownsRow base 5 1 v n (u8s L)) (hl : n ≤ 1000000000) :
    Calls Try.prog 41 #[.agg f.cs, .pointer (some ⟨B, 0, none⟩)] w fun e w' => e = .returned (.int .i64 (check9 f)) ∧ Touch (At B) w w' := by
  have HP := Lib.hid (fun W => f_put_no f hf hc W)
  obtain ⟨er, her⟩ : ∃ er, er = check9 f := ⟨_, rfl⟩
  rw [← her] at HP ⊢
  have HB := Lib.hid hb
  have b0 := hb.cell 0
  have blt := hb.lt
  simp at b0
  obtain ⟨j, hj, hy0, hy1, hy2⟩ := info_u8
  have hown := ho.2
  have hap : ∀ (A : Addr) (W : World), (Builtin.append_ #[36, 36] 36 #[.slice (some A) n n, .slice none 0 0]).run Try.prog W = .ok (.slice (some A) n n) W := fun A W => by
    simp [Builtin.append_, run_underlying Try.underlying36, sizeOf, typeInfo, hj, Builtin.lenOf, Builtin.firstCells, storeCells]
  clear hf hc her hn hb ho
  obtain ⟨fin, op, masked, k0, k1, k2, k3, d⟩ := f
  simp only [Fr.cs] at *
  rcases hown with ⟨rfl, hn0⟩ | ⟨g, cap, cur, rfl, hbg, _, hcap, hcm, _, _⟩
  · subst hn0
    go_enter Try.func41, Try.ntmps41
    go_wp2_with fail
    refine (HP.out _).mono ?_
    rintro e w2 ⟨rfl, ht2⟩
    have hb2 := (HB.out.alloc (.cells #[.bool fin, .int .i64 op, .bool masked, .int .u8 k0, .int .u8 k1, .int .u8 k2, .int .u8 k3, .string d] 44)).touch ht2 (fun h => h)
    have b0 := hb2.cell 0
    have f0 := hb2.frozen 0
    have blt := hb2.lt
    simp at b0
    have HT2 : Hid (Touch NoS w w2) := ((Touch.refl NoS w).alloc _).trans ht2
    clear hb2 ht2 HB
    go_wp2
    go_ret
    exact ⟨rfl, HT2.out.of_no.setAt 0 _⟩
  · have i1 : (n : Int) ≤ cap := by omega
    have hcm' : cap ≤ 9223372036854775807 := by unfold maxLen at hcm; omega
    clear hcm
    have hap := hap ⟨g, 0, none⟩
    go_enter Try.func41, Try.ntmps41
    go_wp2_with fail
    refine (HP.out _).mono ?_
    rintro e w2 ⟨rfl, ht2⟩
    have hb2 := (HB.out.alloc (.cells #[.bool fin, .int .i64 op, .bool masked, .int .u8 k0, .int .u8 k1, .int .u8 k2, .int .u8 k3, .string d] 44)).touch ht2 (fun h => h)
    have b0 := hb2.cell 0
    have f0 := hb2.frozen 0
    have blt := hb2.lt
    simp at b0
    have HT2 : Hid (Touch NoS w w2) := ((Touch.refl NoS w).alloc _).trans ht2
    clear hb2 ht2 HB
    go_wp2
    go_ret
    exact ⟨rfl, HT2.out.of_no.setAt 0 _⟩
end Go.Proofs.Ytkhppojlabajaaa
/- frame: Get, behind its first byte. -/
namespace Go.Proofs.Ytkhppojlabajaaa
open Go.RowKit
set_option linter.unusedSimpArgs false
set_option linter.unusedVariables false

set_option maxHeartbeats 6400000 in
set_option maxRecDepth 100000 in
theorem f_get_one (g off cap : Nat) (hcap : 1 ≤ cap) (hc : cap ≤ maxLen) (x o y : Int) (fin cn : Bool) (most : Int) (w : World)
    (hg : g < w.heap.size) (h0 : w.cell? ⟨g, off, none⟩ = some (.int .u8 x))
    (hy : bits .and .u8 x 128 = y) (hyf : (y != 0) = fin) (ho : bits .and .u8 x 15 = o) (ho0 : 0 ≤ o) (ho1 : o ≤ 15) (hz : bits .and .u8 x 112 = 0)
    (hk : known9 o = true) (hcn : control9 o = cn) (hok : cn = true → fin = true) :
    Calls Try.prog 67 #[.slice (some ⟨g, off, none⟩) 1 cap, .int .i64 most] w fun e w' =>
      e = .returned (.tuple #[.agg Fr.zero.cs, .int .i64 0, .int .i64 90]) ∧ Touch NoS w w' := by
  have HKN := Lib.hid (f_known o)
  have HCN := Lib.hid (f_control o)
  rw [hk] at HKN
  rw [hcn] at HCN
  have HC := Lib.hid hc
  unfold maxLen at hc
  clear hk hcn
  cases cn with
  | false =>
    clear hok
    by_cases h1 : cap = 1
    · subst h1
      go_enter Try.func67, Try.ntmps67
      go_wp2_with fail
      go_region
      go_wp2_with fail
      refine (HCN.out _).mono ?_
      rintro e w1 ⟨rfl, hw1⟩
      obtain ⟨hb4, hb7, ht⟩ : Blk w1 w.heap.size 44 Fr.zero.cs ∧ Blk w1 (w.heap.size + 1) 44 (Fr.cs ⟨fin, o, false, 0, 0, 0, 0, ⟨#[]⟩⟩) ∧ Touch NoS w w1 := by rw [← hw1]; exact two_blocks _ _ _ _ _
      have ca := ht.cell h0
      have c0 := hb7.cell 0
      have c1 := hb7.cell 1
      simp [Fr.cs] at c0 c1
      have HB4 := Lib.hid hb4
      have HT := Lib.hid ht
      have gl : g < w1.heap.size := by have := ht.size; omega
      clear hw1 hb4 hb7 ht h0
      go_wp2_with fail
      refine (HKN.out _).mono ?_
      rintro e w2 ⟨rfl, rfl⟩
      go_wp2_with fail
      refine (m_get_ _ [] 0 _ rfl _ (Rd_nil _ _) (fun x hx => by simp at hx) (Nat.zero_le _) (by have := HC.out; unfold maxLen at *; omega) (by omega)).mono ?_
      rintro e w2 ⟨rfl, ht⟩
      have HB5 := Lib.hid (HB4.out.touch ht (fun h => h))
      have HT2 := Lib.hid (HT.out.trans ht)
      have g1 : (getLen []).1 = 0 := rfl
      have g2 : (getLen []).2.1 = 0 := rfl
      have g3 : (getLen []).2.2 = 80 := rfl
      rw [g1, g2, g3]
      clear g1 g2 g3 ht HB4 HT
      go_wp2_with (refine wpList_store_row rfl 44 (.tmp 4) (.tmp 81) rfl w.heap.size Fr.zero.cs rfl rfl 44 Fr.zero.cs HB5.out fr_info rfl (fr_one _) ?_; rw [setRow_same HB5.out])
      refine bodyPost_ret (v := .tuple #[.agg Fr.zero.cs, .int .i64 0, .int .i64 90]) (get_results _ _ _ _ _ _ rfl rfl rfl HB5.out) rfl ⟨rfl, HT2.out⟩
    · have h1' : (cap == 1) = false := by rw [beq_eq_false_iff_ne]; exact h1
      go_enter Try.func67, Try.ntmps67
      go_wp2_with fail
      go_region
      go_wp2_with fail
      refine (HCN.out _).mono ?_
      rintro e w1 ⟨rfl, hw1⟩
      obtain ⟨hb4, hb7, ht⟩ : Blk w1 w.heap.size 44 Fr.zero.cs ∧ Blk w1 (w.heap.size + 1) 44 (Fr.cs ⟨fin, o, false, 0, 0, 0, 0, ⟨#[]⟩⟩) ∧ Touch NoS w w1 := by rw [← hw1]; exact two_blocks _ _ _ _ _
      have ca := ht.cell h0
      have c0 := hb7.cell 0
      have c1 := hb7.cell 1
      simp [Fr.cs] at c0 c1
      have HB4 := Lib.hid hb4
      have HT := Lib.hid ht
      have gl : g < w1.heap.size := by have := ht.size; omega
      clear hw1 hb4 hb7 ht h0
      go_wp2_with fail
      refine (HKN.out _).mono ?_
      rintro e w2 ⟨rfl, rfl⟩
      go_wp2_with fail
      refine (m_get_ _ [] 0 _ rfl _ (Rd_nil _ _) (fun x hx => by simp at hx) (Nat.zero_le _) (by have := HC.out; unfold maxLen at *; omega) (by omega)).mono ?_
      rintro e w2 ⟨rfl, ht⟩
      have HB5 := Lib.hid (HB4.out.touch ht (fun h => h))
      have HT2 := Lib.hid (HT.out.trans ht)
      have g1 : (getLen []).1 = 0 := rfl
      have g2 : (getLen []).2.1 = 0 := rfl
      have g3 : (getLen []).2.2 = 80 := rfl
      rw [g1, g2, g3]
      clear g1 g2 g3 ht HB4 HT
      go_wp2_with (refine wpList_store_row rfl 44 (.tmp 4) (.tmp 81) rfl w.heap.size Fr.zero.cs rfl rfl 44 Fr.zero.cs HB5.out fr_info rfl (fr_one _) ?_; rw [setRow_same HB5.out])
      refine bodyPost_ret (v := .tuple #[.agg Fr.zero.cs, .int .i64 0, .int .i64 90]) (get_results _ _ _ _ _ _ rfl rfl rfl HB5.out) rfl ⟨rfl, HT2.out⟩
  | true =>
    obtain rfl := hok rfl
    clear hok
    by_cases h1 : cap = 1
    · subst h1
      go_enter Try.func67, Try.ntmps67
      go_wp2_with fail
      go_region
      go_wp2_with fail
      refine (HCN.out _).mono ?_
      rintro e w1 ⟨rfl, hw1⟩
      obtain ⟨hb4, hb7, ht⟩ : Blk w1 w.heap.size 44 Fr.zero.cs ∧ Blk w1 (w.heap.size + 1) 44 (Fr.cs ⟨true, o, false, 0, 0, 0, 0, ⟨#[]⟩⟩) ∧ Touch NoS w w1 := by rw [← hw1]; exact two_blocks _ _ _ _ _
      have ca := ht.cell h0
      have c0 := hb7.cell 0
      have c1 := hb7.cell 1
      simp [Fr.cs] at c0 c1
      have HB4 := Lib.hid hb4
      have HT := Lib.hid ht
      have gl : g < w1.heap.size := by have := ht.size; omega
      clear hw1 hb4 hb7 ht h0
      go_wp2_with fail
      refine (HKN.out _).mono ?_
      rintro e w2 ⟨rfl, rfl⟩
      go_wp2_with fail
      refine (m_get_ _ [] 0 _ rfl _ (Rd_nil _ _) (fun x hx => by simp at hx) (Nat.zero_le _) (by have := HC.out; unfold maxLen at *; omega) (by omega)).mono ?_
      rintro e w2 ⟨rfl, ht⟩
      have HB5 := Lib.hid (HB4.out.touch ht (fun h => h))
      have HT2 := Lib.hid (HT.out.trans ht)
      have g1 : (getLen []).1 = 0 := rfl
      have g2 : (getLen []).2.1 = 0 := rfl
      have g3 : (getLen []).2.2 = 80 := rfl
      rw [g1, g2, g3]
      clear g1 g2 g3 ht HB4 HT
      go_wp2_with (refine wpList_store_row rfl 44 (.tmp 4) (.tmp 81) rfl w.heap.size Fr.zero.cs rfl rfl 44 Fr.zero.cs HB5.out fr_info rfl (fr_one _) ?_; rw [setRow_same HB5.out])
      refine bodyPost_ret (v := .tuple #[.agg Fr.zero.cs, .int .i64 0, .int .i64 90]) (get_results _ _ _ _ _ _ rfl rfl rfl HB5.out) rfl ⟨rfl, HT2.out⟩
    · have h1' : (cap == 1) = false := by rw [beq_eq_false_iff_ne]; exact h1
      go_enter Try.func67, Try.ntmps67
      go_wp2_with fail
      go_region
      go_wp2_with fail
      refine (HCN.out _).mono ?_
      rintro e w1 ⟨rfl, hw1⟩
      obtain ⟨hb4, hb7, ht⟩ : Blk w1 w.heap.size 44 Fr.zero.cs ∧ Blk w1 (w.heap.size + 1) 44 (Fr.cs ⟨true, o, false, 0, 0, 0, 0, ⟨#[]⟩⟩) ∧ Touch NoS w w1 := by rw [← hw1]; exact two_blocks _ _ _ _ _
      have ca := ht.cell h0
      have c0 := hb7.cell 0
      have c1 := hb7.cell 1
      simp [Fr.cs] at c0 c1
      have HB4 := Lib.hid hb4
      have HT := Lib.hid ht
      have gl : g < w1.heap.size := by have := ht.size; omega
      clear hw1 hb4 hb7 ht h0
      go_wp2_with fail
      refine (HKN.out _).mono ?_
      rintro e w2 ⟨rfl, rfl⟩
      go_wp2_with fail
      refine (m_get_ _ [] 0 _ rfl _ (Rd_nil _ _) (fun x hx => by simp at hx) (Nat.zero_le _) (by have := HC.out; unfold maxLen at *; omega) (by omega)).mono ?_
      rintro e w2 ⟨rfl, ht⟩
      have HB5 := Lib.hid (HB4.out.touch ht (fun h => h))
      have HT2 := Lib.hid (HT.out.trans ht)
      have g1 : (getLen []).1 = 0 := rfl
      have g2 : (getLen []).2.1 = 0 := rfl
      have g3 : (getLen []).2.2 = 80 := rfl
      rw [g1, g2, g3]
      clear g1 g2 g3 ht HB4 HT
      go_wp2_with (refine wpList_store_row rfl 44 (.tmp 4) (.tmp 81) rfl w.heap.size Fr.zero.cs rfl rfl 44 Fr.zero.cs HB5.out fr_info rfl (fr_one _) ?_; rw [setRow_same HB5.out])
      refine bodyPost_ret (v := .tuple #[.agg Fr.zero.cs, .int .i64 0, .int .i64 90]) (get_results _ _ _ _ _ _ rfl rfl rfl HB5.out) rfl ⟨rfl, HT2.out⟩
end Go.Proofs.Ytkhppojlabajaaa
