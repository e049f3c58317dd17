/- leg: next. | leg: what goes out, in plain Lean; move. | leg: its block; what is to go out in memory; push and next on it. -/
import Derived.Test.YtlnabpoohnphiaaGreatB04
import Derived.Test.YtlnabpoohnphiaaGreatB06
/- leg: next. -/
namespace Go.Proofs.YtlnabpoohnphiaaGreat
open Go.RowKit
set_option linter.unusedSimpArgs false
set_option linter.unusedVariables false

/-- The next number. -/
def nd (d : Int) : Int := (d * 1664525 + 1013904223) % 4294967296
theorem nd_in (d : Int) : 0 ≤ nd d ∧ nd d ≤ 4294967295 := by
  unfold nd
  omega
/-- The first one of a slice of frames is taken off. -/
theorem win_fr {w : World} {v : Value} {f : Fr} {fs : List Fr} (h : Win w 42 8 v (f :: fs).length (frs (f :: fs))) : ∃ g off c, v = .slice (some ⟨g, off, none⟩) (fs.length + 1) c ∧ fs.length + 1 ≤ c ∧ c ≤ maxLen ∧ g < w.heap.size ∧ Rd w (some ⟨g, off, none⟩) (frs (f :: fs)) ∧
    (∃ cs, Blk w g 42 cs) ∧ Win w 42 8 (.slice (if c = 1 then some ⟨g, off, none⟩ else some ⟨g, off + 8, none⟩) fs.length (c - 1)) fs.length (frs fs) := by
  obtain ⟨A, c, rfl, h1, h2, h3, h4, h5⟩ := h.cases
  rcases A with _ | ⟨g, off, sp⟩
  · have := (h5 rfl).1
    simp at this
  · obtain ⟨rfl, hlt⟩ := h4 _ rfl
    have hc := h.cut 1 (by simp)
    refine ⟨g, off, c, rfl, h1, h2, hlt, h3, h.type rfl, ?_⟩
    have e1 : (frs (f :: fs)).drop (1 * 8) = frs fs := by simp [frs, Fr.cl]
    rw [e1] at hc
    simpa using hc

set_option maxHeartbeats 3200000 in
set_option maxRecDepth 100000 in
theorem l_next_none (g : Nat) (cs : Array Value) (w : World) (hb : Blk w g 109 cs) (A1 A2 : Option Addr) (c1 c2 : Nat) (h16 : cs[16]? = some (.slice A1 0 c1)) (h17 : cs[17]? = some (.slice A2 0 c2)) :
    Calls Tryz.prog 87 #[.pointer (some ⟨g, 0, none⟩)] w fun e w' => e = .returned (.tuple #[.agg (Fr.cs ⟨false, 0, false, 0, 0, 0, 0, ⟨#[]⟩⟩), .bool false]) ∧ Touch NoS w w' := by
  have c16 := (hb.cell 16).trans h16
  have c17 := (hb.cell 17).trans h17
  have glt := hb.lt
  clear hb
  simp only [Fr.cs]
  go_enter Tryz.func87, Tryz.ntmps87
  go_wp2_with fail
  refine bodyPost_ret (v := .tuple #[.agg #[.bool false, .int .i64 0, .bool false, .int .u8 0, .int .u8 0, .int .u8 0, .int .u8 0, .string ⟨#[]⟩], .bool false]) (by simp [results, Tryz.results87, go_sem]) rfl ⟨rfl, (Touch.refl _ _).alloc _⟩

set_option maxHeartbeats 3200000 in
set_option maxRecDepth 100000 in
theorem l_next_16_p (g : Nat) (cs : Array Value) (w : World) (hb : Blk w g 109 cs) (v : Value) (f : Fr) (fs : List Fr) (d : Int) (h16 : cs[16]? = some v) (hw : Win w 42 8 v (f :: fs).length (frs (f :: fs)))
    (h18 : cs[18]? = some (.bool false)) (h19 : cs[19]? = some (.int .u32 d)) :
    Calls Tryz.prog 87 #[.pointer (some ⟨g, 0, none⟩)] w fun e w' => ∃ v', e = .returned (.tuple #[.agg (f).cs, .bool true]) ∧ Blk w' g 109 ((cs.setIfInBounds 16 v')) ∧
      Win w' 42 8 v' fs.length (frs fs) ∧ v'.ownBlock = v.ownBlock ∧ Touch (At g) w w' := by
  obtain ⟨gA, off, c, rfl, hlc, hcm, hga, hrd, ⟨as_, hta⟩, hcut⟩ := win_fr hw
  obtain ⟨gA2, oA2, hA2, _, a0, a1, a2, a3, a4, a5, a6, a7⟩ := fr_cells hrd 0 (by simp)
  injection hA2 with hA2
  injection hA2 with hA2 hA3
  subst hA2 hA3
  simp only [List.getElem_cons_zero, Nat.zero_mul, Nat.add_zero] at a0 a1 a2 a3 a4 a5 a6 a7
  have hgA : gA ≠ g := hta.ne_ hb (by decide)
  obtain ⟨n, hn⟩ : ∃ n, n = fs.length := ⟨_, rfl⟩
  rw [← hn] at h16 hlc hcut ⊢
  have HN := Lib.hid hn
  have c16 := (hb.cell 16).trans h16
  have c18 := (hb.cell 18).trans h18
  have c19 := (hb.cell 19).trans h19
  have f16 := hb.frozen 16
  have f19 := hb.frozen 19
  have glt := hb.lt
  have HB := Lib.hid hb
  have HTA := Lib.hid hta
  have HFIN : Hid (∀ V, V = Value.slice (if c = 1 then some ⟨gA, off, none⟩ else some ⟨gA, off + 8, none⟩) n (c - 1) → Blk (w.setCell ⟨g, 16, none⟩ V) g 109 ((cs.setIfInBounds 16 V)) ∧ Win (w.setCell ⟨g, 16, none⟩ V) 42 8 V n (frs fs) ∧ V.ownBlock = (Value.slice (some ⟨gA, off, none⟩) (n + 1) c).ownBlock ∧ Touch (At g) w (w.setCell ⟨g, 16, none⟩ V)) := by
    show ∀ V, _
    intro V hV
    rw [← hV] at hcut
    have hVo : V.ownBlock = some gA := by rw [hV]; split <;> rfl
    have ht : Touch (At g) w (w.setCell ⟨g, 16, none⟩ V) := ((Touch.refl (At g) w).setAt 16 V)
    exact ⟨(HB.out.set_ 16 V), hcut.touch ht (fun b hbo h => by rw [hVo] at hbo; injection hbo with hbo; exact hgA (hbo.trans h)), hVo, ht⟩
  have hnd : (d * 1664525 + 1013904223) % 4294967296 = nd d := rfl
  obtain ⟨fin, op, masked, k0, k1, k2, k3, data⟩ := f
  clear hb hw hrd hcut hn hta h16 h18 h19 
  simp only [Fr.cs] at *
  by_cases hc1 : c = 1
  · subst hc1
    obtain rfl : n = 0 := by omega
    obtain ⟨q1, q2, q3, q4⟩ := HFIN.out (.slice (some ⟨gA, off, none⟩) 0 0) (by simp)
    clear HFIN
    go_enter Tryz.func87, Tryz.ntmps87
    go_wp2_with fail
    refine bodyPost_ret (v := .tuple #[.agg #[.bool fin, .int .i64 op, .bool masked, .int .u8 k0, .int .u8 k1, .int .u8 k2, .int .u8 k3, .string data], .bool true]) (by simp [results, Tryz.results87, go_sem]) rfl ?_
    first
      | exact ⟨_, rfl, (q1.alloc _).alloc _, q2.no (((Touch.refl _ _).alloc _).alloc _), q3, (q4.alloc _).alloc _⟩
      | exact ⟨rfl, _, (q1.alloc _).alloc _, q2.no (((Touch.refl _ _).alloc _).alloc _), q3, (q4.alloc _).alloc _⟩
  · obtain ⟨q1, q2, q3, q4⟩ := HFIN.out (.slice (some ⟨gA, off + 8, none⟩) n (c - 1)) (by simp [hc1])
    clear HFIN
    go_enter Tryz.func87, Tryz.ntmps87
    go_wp2_with fail
    refine bodyPost_ret (v := .tuple #[.agg #[.bool fin, .int .i64 op, .bool masked, .int .u8 k0, .int .u8 k1, .int .u8 k2, .int .u8 k3, .string data], .bool true]) (by simp [results, Tryz.results87, go_sem]) rfl ?_
    first
      | exact ⟨_, rfl, (q1.alloc _).alloc _, q2.no (((Touch.refl _ _).alloc _).alloc _), q3, (q4.alloc _).alloc _⟩
      | exact ⟨rfl, _, (q1.alloc _).alloc _, q2.no (((Touch.refl _ _).alloc _).alloc _), q3, (q4.alloc _).alloc _⟩

set_option maxHeartbeats 3200000 in
set_option maxRecDepth 100000 in
theorem l_next_16_m (g : Nat) (cs : Array Value) (w : World) (hb : Blk w g 109 cs) (v : Value) (f : Fr) (fs : List Fr) (d : Int) (h16 : cs[16]? = some v) (hw : Win w 42 8 v (f :: fs).length (frs (f :: fs)))
    (h18 : cs[18]? = some (.bool true)) (h19 : cs[19]? = some (.int .u32 d)) :
    Calls Tryz.prog 87 #[.pointer (some ⟨g, 0, none⟩)] w fun e w' => ∃ v', e = .returned (.tuple #[.agg (mask1 f (nd d)).cs, .bool true]) ∧ Blk w' g 109 ((cs.setIfInBounds 16 v').setIfInBounds 19 (.int .u32 (nd d))) ∧
      Win w' 42 8 v' fs.length (frs fs) ∧ v'.ownBlock = v.ownBlock ∧ Touch (At g) w w' := by
  obtain ⟨gA, off, c, rfl, hlc, hcm, hga, hrd, ⟨as_, hta⟩, hcut⟩ := win_fr hw
  obtain ⟨gA2, oA2, hA2, _, a0, a1, a2, a3, a4, a5, a6, a7⟩ := fr_cells hrd 0 (by simp)
  injection hA2 with hA2
  injection hA2 with hA2 hA3
  subst hA2 hA3
  simp only [List.getElem_cons_zero, Nat.zero_mul, Nat.add_zero] at a0 a1 a2 a3 a4 a5 a6 a7
  have hgA : gA ≠ g := hta.ne_ hb (by decide)
  obtain ⟨n, hn⟩ : ∃ n, n = fs.length := ⟨_, rfl⟩
  rw [← hn] at h16 hlc hcut ⊢
  have HN := Lib.hid hn
  have c16 := (hb.cell 16).trans h16
  have c18 := (hb.cell 18).trans h18
  have c19 := (hb.cell 19).trans h19
  have f16 := hb.frozen 16
  have f19 := hb.frozen 19
  have glt := hb.lt
  have HB := Lib.hid hb
  have HTA := Lib.hid hta
  have HFIN : Hid (∀ V, V = Value.slice (if c = 1 then some ⟨gA, off, none⟩ else some ⟨gA, off + 8, none⟩) n (c - 1) → Blk ((w.setCell ⟨g, 16, none⟩ V).setCell ⟨g, 19, none⟩ (.int .u32 (nd d))) g 109 ((cs.setIfInBounds 16 V).setIfInBounds 19 (.int .u32 (nd d))) ∧ Win ((w.setCell ⟨g, 16, none⟩ V).setCell ⟨g, 19, none⟩ (.int .u32 (nd d))) 42 8 V n (frs fs) ∧ V.ownBlock = (Value.slice (some ⟨gA, off, none⟩) (n + 1) c).ownBlock ∧ Touch (At g) w ((w.setCell ⟨g, 16, none⟩ V).setCell ⟨g, 19, none⟩ (.int .u32 (nd d)))) := by
    show ∀ V, _
    intro V hV
    rw [← hV] at hcut
    have hVo : V.ownBlock = some gA := by rw [hV]; split <;> rfl
    have ht : Touch (At g) w ((w.setCell ⟨g, 16, none⟩ V).setCell ⟨g, 19, none⟩ (.int .u32 (nd d))) := ((Touch.refl (At g) w).setAt 16 V).setAt 19 (.int .u32 (nd d))
    exact ⟨(HB.out.set_ 16 V).set_ 19 (.int .u32 (nd d)), hcut.touch ht (fun b hbo h => by rw [hVo] at hbo; injection hbo with hbo; exact hgA (hbo.trans h)), hVo, ht⟩
  have hnd : (d * 1664525 + 1013904223) % 4294967296 = nd d := rfl
  obtain ⟨fin, op, masked, k0, k1, k2, k3, data⟩ := f
  clear hb hw hrd hcut hn hta h16 h18 h19 
  simp only [mask1, Fr.cs] at *
  by_cases hc1 : c = 1
  · subst hc1
    obtain rfl : n = 0 := by omega
    obtain ⟨q1, q2, q3, q4⟩ := HFIN.out (.slice (some ⟨gA, off, none⟩) 0 0) (by simp)
    clear HFIN
    go_enter Tryz.func87, Tryz.ntmps87
    go_wp2_with fail
    refine (m_key (nd d) (nd_in d).1 (nd_in d).2 _).mono ?_
    rintro e w5 ⟨rfl, ht⟩
    obtain ⟨w4, hw4⟩ : ∃ w4, w4 = ((w.setCell ⟨g, 16, none⟩ (.slice (some ⟨gA, off, none⟩) 0 0)).setCell ⟨g, 19, none⟩ (.int .u32 (nd d))) := ⟨_, rfl⟩
    rw [← hw4] at ht q1 q2 q4
    have hs4 : w4.heap.size = w.heap.size := by rw [hw4]; simp [World.setCell]
    have hbR : Blk w5 w.heap.size 42 (Fr.cl ⟨false, 0, false, 0, 0, 0, 0, ⟨#[]⟩⟩).toArray := by
      have := ((Blk.new w4 42 (Fr.cl ⟨false, 0, false, 0, 0, 0, 0, ⟨#[]⟩⟩).toArray).alloc (.cells (Fr.cl ⟨fin, op, masked, k0, k1, k2, k3, data⟩).toArray 42)).touch ht (fun h => h)
      rw [hs4] at this
      exact this
    have hbF : Blk w5 (w.heap.size + 1) 42 (Fr.cl ⟨fin, op, masked, k0, k1, k2, k3, data⟩).toArray := by
      have := (Blk.new (w4.alloc (.cells (Fr.cl ⟨false, 0, false, 0, 0, 0, 0, ⟨#[]⟩⟩).toArray 42)) 42 (Fr.cl ⟨fin, op, masked, k0, k1, k2, k3, data⟩).toArray).touch ht (fun h => h)
      rw [show (w4.alloc (.cells (Fr.cl ⟨false, 0, false, 0, 0, 0, 0, ⟨#[]⟩⟩).toArray 42)).heap.size = w.heap.size + 1 from by simp [hs4]] at this
      exact this
    have r0 := hbR.cell 0
    have r1 := hbR.cell 1
    have r2 := hbR.cell 2
    have r3 := hbR.cell 3
    have r4 := hbR.cell 4
    have r5 := hbR.cell 5
    have r6 := hbR.cell 6
    have r7 := hbR.cell 7
    have s0 := hbF.cell 0
    have s1 := hbF.cell 1
    have s2 := hbF.cell 2
    have s3 := hbF.cell 3
    have s4 := hbF.cell 4
    have s5 := hbF.cell 5
    have s6 := hbF.cell 6
    have s7 := hbF.cell 7
    have u0 := hbR.frozen 0
    have u1 := hbR.frozen 1
    have u2 := hbR.frozen 2
    have u3 := hbR.frozen 3
    have u4 := hbR.frozen 4
    have u5 := hbR.frozen 5
    have u6 := hbR.frozen 6
    have u7 := hbR.frozen 7
    have v0 := hbF.frozen 0
    have v1 := hbF.frozen 1
    have v2 := hbF.frozen 2
    have v3 := hbF.frozen 3
    have v4 := hbF.frozen 4
    have v5 := hbF.frozen 5
    have v6 := hbF.frozen 6
    have v7 := hbF.frozen 7
    have ltR := hbR.lt
    have ltF := hbF.lt
    simp [Fr.cl] at r0 r1 r2 r3 r4 r5 r6 r7 s0 s1 s2 s3 s4 s5 s6 s7
    have HBR := Lib.hid hbR
    have HBF := Lib.hid hbF
    clear hbR hbF
    have ht5 : Touch NoS w4 w5 := (((Touch.refl NoS w4).alloc _).alloc _).trans ht
    have hle : w4.heap.size ≤ w.heap.size := by omega
    have hle2 : w4.heap.size ≤ w.heap.size + 1 := by omega
    have HT5 := Lib.hid ht5
    have HLE := Lib.hid hle
    have HLE2 := Lib.hid hle2
    clear ht ht5 hle hle2 hs4 hw4
    have hne : ¬ (w.heap.size + 1 = w.heap.size) := by omega
    have hne2 : ¬ (w.heap.size = w.heap.size + 1) := by omega
    go_wp2_with fail
    refine bodyPost_ret (v := .tuple #[.agg #[.bool fin, .int .i64 op, .bool true, .int .u8 (nd d / 16777216), .int .u8 (nd d / 65536 % 256), .int .u8 (nd d / 256 % 256), .int .u8 (nd d % 256), .string data], .bool true]) (by simp [results, Tryz.results87, go_sem, World.cell?_setCell_same', World.cell?_setCell_other, r0, r1, r2, r3, r4, r5, r6, r7, hne, hne2]) rfl ?_
    refine ⟨_, rfl, q1.touch (S := NoS) ?_ (fun h => h), q2.no ?_, q3, q4.trans (Touch.of_no ?_)⟩
    all_goals repeat (with_reducible first | exact HT5.out | refine Touch.setNew ?_ HLE.out _ | refine Touch.setNew ?_ HLE2.out _)
  · obtain ⟨q1, q2, q3, q4⟩ := HFIN.out (.slice (some ⟨gA, off + 8, none⟩) n (c - 1)) (by simp [hc1])
    clear HFIN
    go_enter Tryz.func87, Tryz.ntmps87
    go_wp2_with fail
    refine (m_key (nd d) (nd_in d).1 (nd_in d).2 _).mono ?_
    rintro e w5 ⟨rfl, ht⟩
    obtain ⟨w4, hw4⟩ : ∃ w4, w4 = ((w.setCell ⟨g, 16, none⟩ (.slice (some ⟨gA, off + 8, none⟩) n (c - 1))).setCell ⟨g, 19, none⟩ (.int .u32 (nd d))) := ⟨_, rfl⟩
    rw [← hw4] at ht q1 q2 q4
    have hs4 : w4.heap.size = w.heap.size := by rw [hw4]; simp [World.setCell]
    have hbR : Blk w5 w.heap.size 42 (Fr.cl ⟨false, 0, false, 0, 0, 0, 0, ⟨#[]⟩⟩).toArray := by
      have := ((Blk.new w4 42 (Fr.cl ⟨false, 0, false, 0, 0, 0, 0, ⟨#[]⟩⟩).toArray).alloc (.cells (Fr.cl ⟨fin, op, masked, k0, k1, k2, k3, data⟩).toArray 42)).touch ht (fun h => h)
      rw [hs4] at this
      exact this
    have hbF : Blk w5 (w.heap.size + 1) 42 (Fr.cl ⟨fin, op, masked, k0, k1, k2, k3, data⟩).toArray := by
      have := (Blk.new (w4.alloc (.cells (Fr.cl ⟨false, 0, false, 0, 0, 0, 0, ⟨#[]⟩⟩).toArray 42)) 42 (Fr.cl ⟨fin, op, masked, k0, k1, k2, k3, data⟩).toArray).touch ht (fun h => h)
      rw [show (w4.alloc (.cells (Fr.cl ⟨false, 0, false, 0, 0, 0, 0, ⟨#[]⟩⟩).toArray 42)).heap.size = w.heap.size + 1 from by simp [hs4]] at this
      exact this
    have r0 := hbR.cell 0
    have r1 := hbR.cell 1
    have r2 := hbR.cell 2
    have r3 := hbR.cell 3
    have r4 := hbR.cell 4
    have r5 := hbR.cell 5
    have r6 := hbR.cell 6
    have r7 := hbR.cell 7
    have s0 := hbF.cell 0
    have s1 := hbF.cell 1
    have s2 := hbF.cell 2
    have s3 := hbF.cell 3
    have s4 := hbF.cell 4
    have s5 := hbF.cell 5
    have s6 := hbF.cell 6
    have s7 := hbF.cell 7
    have u0 := hbR.frozen 0
    have u1 := hbR.frozen 1
    have u2 := hbR.frozen 2
    have u3 := hbR.frozen 3
    have u4 := hbR.frozen 4
    have u5 := hbR.frozen 5
    have u6 := hbR.frozen 6
    have u7 := hbR.frozen 7
    have v0 := hbF.frozen 0
    have v1 := hbF.frozen 1
    have v2 := hbF.frozen 2
    have v3 := hbF.frozen 3
    have v4 := hbF.frozen 4
    have v5 := hbF.frozen 5
    have v6 := hbF.frozen 6
    have v7 := hbF.frozen 7
    have ltR := hbR.lt
    have ltF := hbF.lt
    simp [Fr.cl] at r0 r1 r2 r3 r4 r5 r6 r7 s0 s1 s2 s3 s4 s5 s6 s7
    have HBR := Lib.hid hbR
    have HBF := Lib.hid hbF
    clear hbR hbF
    have ht5 : Touch NoS w4 w5 := (((Touch.refl NoS w4).alloc _).alloc _).trans ht
    have hle : w4.heap.size ≤ w.heap.size := by omega
    have hle2 : w4.heap.size ≤ w.heap.size + 1 := by omega
    have HT5 := Lib.hid ht5
    have HLE := Lib.hid hle
    have HLE2 := Lib.hid hle2
    clear ht ht5 hle hle2 hs4 hw4
    have hne : ¬ (w.heap.size + 1 = w.heap.size) := by omega
    have hne2 : ¬ (w.heap.size = w.heap.size + 1) := by omega
    go_wp2_with fail
    refine bodyPost_ret (v := .tuple #[.agg #[.bool fin, .int .i64 op, .bool true, .int .u8 (nd d / 16777216), .int .u8 (nd d / 65536 % 256), .int .u8 (nd d / 256 % 256), .int .u8 (nd d % 256), .string data], .bool true]) (by simp [results, Tryz.results87, go_sem, World.cell?_setCell_same', World.cell?_setCell_other, r0, r1, r2, r3, r4, r5, r6, r7, hne, hne2]) rfl ?_
    refine ⟨_, rfl, q1.touch (S := NoS) ?_ (fun h => h), q2.no ?_, q3, q4.trans (Touch.of_no ?_)⟩
    all_goals repeat (with_reducible first | exact HT5.out | refine Touch.setNew ?_ HLE.out _ | refine Touch.setNew ?_ HLE2.out _)

set_option maxHeartbeats 3200000 in
set_option maxRecDepth 100000 in
theorem l_next_17_p (g : Nat) (cs : Array Value) (w : World) (hb : Blk w g 109 cs) (A1 : Option Addr) (c1 : Nat) (h16 : cs[16]? = some (.slice A1 0 c1)) (v : Value) (f : Fr) (fs : List Fr) (d : Int) (h17 : cs[17]? = some v) (hw : Win w 42 8 v (f :: fs).length (frs (f :: fs)))
    (h18 : cs[18]? = some (.bool false)) (h19 : cs[19]? = some (.int .u32 d)) :
    Calls Tryz.prog 87 #[.pointer (some ⟨g, 0, none⟩)] w fun e w' => ∃ v', e = .returned (.tuple #[.agg (f).cs, .bool true]) ∧ Blk w' g 109 ((cs.setIfInBounds 17 v')) ∧
      Win w' 42 8 v' fs.length (frs fs) ∧ v'.ownBlock = v.ownBlock ∧ Touch (At g) w w' := by
  obtain ⟨gA, off, c, rfl, hlc, hcm, hga, hrd, ⟨as_, hta⟩, hcut⟩ := win_fr hw
  obtain ⟨gA2, oA2, hA2, _, a0, a1, a2, a3, a4, a5, a6, a7⟩ := fr_cells hrd 0 (by simp)
  injection hA2 with hA2
  injection hA2 with hA2 hA3
  subst hA2 hA3
  simp only [List.getElem_cons_zero, Nat.zero_mul, Nat.add_zero] at a0 a1 a2 a3 a4 a5 a6 a7
  have hgA : gA ≠ g := hta.ne_ hb (by decide)
  obtain ⟨n, hn⟩ : ∃ n, n = fs.length := ⟨_, rfl⟩
  rw [← hn] at h17 hlc hcut ⊢
  have HN := Lib.hid hn
  have c16 := (hb.cell 16).trans h16
  have c17 := (hb.cell 17).trans h17
  have c18 := (hb.cell 18).trans h18
  have c19 := (hb.cell 19).trans h19
  have f17 := hb.frozen 17
  have f19 := hb.frozen 19
  have glt := hb.lt
  have HB := Lib.hid hb
  have HTA := Lib.hid hta
  have HFIN : Hid (∀ V, V = Value.slice (if c = 1 then some ⟨gA, off, none⟩ else some ⟨gA, off + 8, none⟩) n (c - 1) → Blk (w.setCell ⟨g, 17, none⟩ V) g 109 ((cs.setIfInBounds 17 V)) ∧ Win (w.setCell ⟨g, 17, none⟩ V) 42 8 V n (frs fs) ∧ V.ownBlock = (Value.slice (some ⟨gA, off, none⟩) (n + 1) c).ownBlock ∧ Touch (At g) w (w.setCell ⟨g, 17, none⟩ V)) := by
    show ∀ V, _
    intro V hV
    rw [← hV] at hcut
    have hVo : V.ownBlock = some gA := by rw [hV]; split <;> rfl
    have ht : Touch (At g) w (w.setCell ⟨g, 17, none⟩ V) := ((Touch.refl (At g) w).setAt 17 V)
    exact ⟨(HB.out.set_ 17 V), hcut.touch ht (fun b hbo h => by rw [hVo] at hbo; injection hbo with hbo; exact hgA (hbo.trans h)), hVo, ht⟩
  have hnd : (d * 1664525 + 1013904223) % 4294967296 = nd d := rfl
  obtain ⟨fin, op, masked, k0, k1, k2, k3, data⟩ := f
  clear hb hw hrd hcut hn hta h17 h18 h19 h16
  simp only [Fr.cs] at *
  by_cases hc1 : c = 1
  · subst hc1
    obtain rfl : n = 0 := by omega
    obtain ⟨q1, q2, q3, q4⟩ := HFIN.out (.slice (some ⟨gA, off, none⟩) 0 0) (by simp)
    clear HFIN
    go_enter Tryz.func87, Tryz.ntmps87
    go_wp2_with fail
    refine bodyPost_ret (v := .tuple #[.agg #[.bool fin, .int .i64 op, .bool masked, .int .u8 k0, .int .u8 k1, .int .u8 k2, .int .u8 k3, .string data], .bool true]) (by simp [results, Tryz.results87, go_sem]) rfl ?_
    first
      | exact ⟨_, rfl, (q1.alloc _).alloc _, q2.no (((Touch.refl _ _).alloc _).alloc _), q3, (q4.alloc _).alloc _⟩
      | exact ⟨rfl, _, (q1.alloc _).alloc _, q2.no (((Touch.refl _ _).alloc _).alloc _), q3, (q4.alloc _).alloc _⟩
  · obtain ⟨q1, q2, q3, q4⟩ := HFIN.out (.slice (some ⟨gA, off + 8, none⟩) n (c - 1)) (by simp [hc1])
    clear HFIN
    go_enter Tryz.func87, Tryz.ntmps87
    go_wp2_with fail
    refine bodyPost_ret (v := .tuple #[.agg #[.bool fin, .int .i64 op, .bool masked, .int .u8 k0, .int .u8 k1, .int .u8 k2, .int .u8 k3, .string data], .bool true]) (by simp [results, Tryz.results87, go_sem]) rfl ?_
    first
      | exact ⟨_, rfl, (q1.alloc _).alloc _, q2.no (((Touch.refl _ _).alloc _).alloc _), q3, (q4.alloc _).alloc _⟩
      | exact ⟨rfl, _, (q1.alloc _).alloc _, q2.no (((Touch.refl _ _).alloc _).alloc _), q3, (q4.alloc _).alloc _⟩

set_option maxHeartbeats 3200000 in
set_option maxRecDepth 100000 in
theorem l_next_17_m (g : Nat) (cs : Array Value) (w : World) (hb : Blk w g 109 cs) (A1 : Option Addr) (c1 : Nat) (h16 : cs[16]? = some (.slice A1 0 c1)) (v : Value) (f : Fr) (fs : List Fr) (d : Int) (h17 : cs[17]? = some v) (hw : Win w 42 8 v (f :: fs).length (frs (f :: fs)))
    (h18 : cs[18]? = some (.bool true)) (h19 : cs[19]? = some (.int .u32 d)) :
    Calls Tryz.prog 87 #[.pointer (some ⟨g, 0, none⟩)] w fun e w' => ∃ v', e = .returned (.tuple #[.agg (mask1 f (nd d)).cs, .bool true]) ∧ Blk w' g 109 ((cs.setIfInBounds 17 v').setIfInBounds 19 (.int .u32 (nd d))) ∧
      Win w' 42 8 v' fs.length (frs fs) ∧ v'.ownBlock = v.ownBlock ∧ Touch (At g) w w' := by
  obtain ⟨gA, off, c, rfl, hlc, hcm, hga, hrd, ⟨as_, hta⟩, hcut⟩ := win_fr hw
  obtain ⟨gA2, oA2, hA2, _, a0, a1, a2, a3, a4, a5, a6, a7⟩ := fr_cells hrd 0 (by simp)
  injection hA2 with hA2
  injection hA2 with hA2 hA3
  subst hA2 hA3
  simp only [List.getElem_cons_zero, Nat.zero_mul, Nat.add_zero] at a0 a1 a2 a3 a4 a5 a6 a7
  have hgA : gA ≠ g := hta.ne_ hb (by decide)
  obtain ⟨n, hn⟩ : ∃ n, n = fs.length := ⟨_, rfl⟩
  rw [← hn] at h17 hlc hcut ⊢
  have HN := Lib.hid hn
  have c16 := (hb.cell 16).trans h16
  have c17 := (hb.cell 17).trans h17
  have c18 := (hb.cell 18).trans h18
  have c19 := (hb.cell 19).trans h19
  have f17 := hb.frozen 17
  have f19 := hb.frozen 19
  have glt := hb.lt
  have HB := Lib.hid hb
  have HTA := Lib.hid hta
  have HFIN : Hid (∀ V, V = Value.slice (if c = 1 then some ⟨gA, off, none⟩ else some ⟨gA, off + 8, none⟩) n (c - 1) → Blk ((w.setCell ⟨g, 17, none⟩ V).setCell ⟨g, 19, none⟩ (.int .u32 (nd d))) g 109 ((cs.setIfInBounds 17 V).setIfInBounds 19 (.int .u32 (nd d))) ∧ Win ((w.setCell ⟨g, 17, none⟩ V).setCell ⟨g, 19, none⟩ (.int .u32 (nd d))) 42 8 V n (frs fs) ∧ V.ownBlock = (Value.slice (some ⟨gA, off, none⟩) (n + 1) c).ownBlock ∧ Touch (At g) w ((w.setCell ⟨g, 17, none⟩ V).setCell ⟨g, 19, none⟩ (.int .u32 (nd d)))) := by
    show ∀ V, _
    intro V hV
    rw [← hV] at hcut
    have hVo : V.ownBlock = some gA := by rw [hV]; split <;> rfl
    have ht : Touch (At g) w ((w.setCell ⟨g, 17, none⟩ V).setCell ⟨g, 19, none⟩ (.int .u32 (nd d))) := ((Touch.refl (At g) w).setAt 17 V).setAt 19 (.int .u32 (nd d))
    exact ⟨(HB.out.set_ 17 V).set_ 19 (.int .u32 (nd d)), hcut.touch ht (fun b hbo h => by rw [hVo] at hbo; injection hbo with hbo; exact hgA (hbo.trans h)), hVo, ht⟩
  have hnd : (d * 1664525 + 1013904223) % 4294967296 = nd d := rfl
  obtain ⟨fin, op, masked, k0, k1, k2, k3, data⟩ := f
  clear hb hw hrd hcut hn hta h17 h18 h19 h16
  simp only [mask1, Fr.cs] at *
  by_cases hc1 : c = 1
  · subst hc1
    obtain rfl : n = 0 := by omega
    obtain ⟨q1, q2, q3, q4⟩ := HFIN.out (.slice (some ⟨gA, off, none⟩) 0 0) (by simp)
    clear HFIN
    go_enter Tryz.func87, Tryz.ntmps87
    go_wp2_with fail
    refine (m_key (nd d) (nd_in d).1 (nd_in d).2 _).mono ?_
    rintro e w5 ⟨rfl, ht⟩
    obtain ⟨w4, hw4⟩ : ∃ w4, w4 = ((w.setCell ⟨g, 17, none⟩ (.slice (some ⟨gA, off, none⟩) 0 0)).setCell ⟨g, 19, none⟩ (.int .u32 (nd d))) := ⟨_, rfl⟩
    rw [← hw4] at ht q1 q2 q4
    have hs4 : w4.heap.size = w.heap.size := by rw [hw4]; simp [World.setCell]
    have hbR : Blk w5 w.heap.size 42 (Fr.cl ⟨false, 0, false, 0, 0, 0, 0, ⟨#[]⟩⟩).toArray := by
      have := ((Blk.new w4 42 (Fr.cl ⟨false, 0, false, 0, 0, 0, 0, ⟨#[]⟩⟩).toArray).alloc (.cells (Fr.cl ⟨fin, op, masked, k0, k1, k2, k3, data⟩).toArray 42)).touch ht (fun h => h)
      rw [hs4] at this
      exact this
    have hbF : Blk w5 (w.heap.size + 1) 42 (Fr.cl ⟨fin, op, masked, k0, k1, k2, k3, data⟩).toArray := by
      have := (Blk.new (w4.alloc (.cells (Fr.cl ⟨false, 0, false, 0, 0, 0, 0, ⟨#[]⟩⟩).toArray 42)) 42 (Fr.cl ⟨fin, op, masked, k0, k1, k2, k3, data⟩).toArray).touch ht (fun h => h)
      rw [show (w4.alloc (.cells (Fr.cl ⟨false, 0, false, 0, 0, 0, 0, ⟨#[]⟩⟩).toArray 42)).heap.size = w.heap.size + 1 from by simp [hs4]] at this
      exact this
    have r0 := hbR.cell 0
    have r1 := hbR.cell 1
    have r2 := hbR.cell 2
    have r3 := hbR.cell 3
    have r4 := hbR.cell 4
    have r5 := hbR.cell 5
    have r6 := hbR.cell 6
    have r7 := hbR.cell 7
    have s0 := hbF.cell 0
    have s1 := hbF.cell 1
    have s2 := hbF.cell 2
    have s3 := hbF.cell 3
    have s4 := hbF.cell 4
    have s5 := hbF.cell 5
    have s6 := hbF.cell 6
    have s7 := hbF.cell 7
    have u0 := hbR.frozen 0
    have u1 := hbR.frozen 1
    have u2 := hbR.frozen 2
    have u3 := hbR.frozen 3
    have u4 := hbR.frozen 4
    have u5 := hbR.frozen 5
    have u6 := hbR.frozen 6
    have u7 := hbR.frozen 7
    have v0 := hbF.frozen 0
    have v1 := hbF.frozen 1
    have v2 := hbF.frozen 2
    have v3 := hbF.frozen 3
    have v4 := hbF.frozen 4
    have v5 := hbF.frozen 5
    have v6 := hbF.frozen 6
    have v7 := hbF.frozen 7
    have ltR := hbR.lt
    have ltF := hbF.lt
    simp [Fr.cl] at r0 r1 r2 r3 r4 r5 r6 r7 s0 s1 s2 s3 s4 s5 s6 s7
    have HBR := Lib.hid hbR
    have HBF := Lib.hid hbF
    clear hbR hbF
    have ht5 : Touch NoS w4 w5 := (((Touch.refl NoS w4).alloc _).alloc _).trans ht
    have hle : w4.heap.size ≤ w.heap.size := by omega
    have hle2 : w4.heap.size ≤ w.heap.size + 1 := by omega
    have HT5 := Lib.hid ht5
    have HLE := Lib.hid hle
    have HLE2 := Lib.hid hle2
    clear ht ht5 hle hle2 hs4 hw4
    have hne : ¬ (w.heap.size + 1 = w.heap.size) := by omega
    have hne2 : ¬ (w.heap.size = w.heap.size + 1) := by omega
    go_wp2_with fail
    refine bodyPost_ret (v := .tuple #[.agg #[.bool fin, .int .i64 op, .bool true, .int .u8 (nd d / 16777216), .int .u8 (nd d / 65536 % 256), .int .u8 (nd d / 256 % 256), .int .u8 (nd d % 256), .string data], .bool true]) (by simp [results, Tryz.results87, go_sem, World.cell?_setCell_same', World.cell?_setCell_other, r0, r1, r2, r3, r4, r5, r6, r7, hne, hne2]) rfl ?_
    refine ⟨_, rfl, q1.touch (S := NoS) ?_ (fun h => h), q2.no ?_, q3, q4.trans (Touch.of_no ?_)⟩
    all_goals repeat (with_reducible first | exact HT5.out | refine Touch.setNew ?_ HLE.out _ | refine Touch.setNew ?_ HLE2.out _)
  · obtain ⟨q1, q2, q3, q4⟩ := HFIN.out (.slice (some ⟨gA, off + 8, none⟩) n (c - 1)) (by simp [hc1])
    clear HFIN
    go_enter Tryz.func87, Tryz.ntmps87
    go_wp2_with fail
    refine (m_key (nd d) (nd_in d).1 (nd_in d).2 _).mono ?_
    rintro e w5 ⟨rfl, ht⟩
    obtain ⟨w4, hw4⟩ : ∃ w4, w4 = ((w.setCell ⟨g, 17, none⟩ (.slice (some ⟨gA, off + 8, none⟩) n (c - 1))).setCell ⟨g, 19, none⟩ (.int .u32 (nd d))) := ⟨_, rfl⟩
    rw [← hw4] at ht q1 q2 q4
    have hs4 : w4.heap.size = w.heap.size := by rw [hw4]; simp [World.setCell]
    have hbR : Blk w5 w.heap.size 42 (Fr.cl ⟨false, 0, false, 0, 0, 0, 0, ⟨#[]⟩⟩).toArray := by
      have := ((Blk.new w4 42 (Fr.cl ⟨false, 0, false, 0, 0, 0, 0, ⟨#[]⟩⟩).toArray).alloc (.cells (Fr.cl ⟨fin, op, masked, k0, k1, k2, k3, data⟩).toArray 42)).touch ht (fun h => h)
      rw [hs4] at this
      exact this
    have hbF : Blk w5 (w.heap.size + 1) 42 (Fr.cl ⟨fin, op, masked, k0, k1, k2, k3, data⟩).toArray := by
      have := (Blk.new (w4.alloc (.cells (Fr.cl ⟨false, 0, false, 0, 0, 0, 0, ⟨#[]⟩⟩).toArray 42)) 42 (Fr.cl ⟨fin, op, masked, k0, k1, k2, k3, data⟩).toArray).touch ht (fun h => h)
      rw [show (w4.alloc (.cells (Fr.cl ⟨false, 0, false, 0, 0, 0, 0, ⟨#[]⟩⟩).toArray 42)).heap.size = w.heap.size + 1 from by simp [hs4]] at this
      exact this
    have r0 := hbR.cell 0
    have r1 := hbR.cell 1
    have r2 := hbR.cell 2
    have r3 := hbR.cell 3
    have r4 := hbR.cell 4
    have r5 := hbR.cell 5
    have r6 := hbR.cell 6
    have r7 := hbR.cell 7
    have s0 := hbF.cell 0
    have s1 := hbF.cell 1
    have s2 := hbF.cell 2
    have s3 := hbF.cell 3
    have s4 := hbF.cell 4
    have s5 := hbF.cell 5
    have s6 := hbF.cell 6
    have s7 := hbF.cell 7
    have u0 := hbR.frozen 0
    have u1 := hbR.frozen 1
    have u2 := hbR.frozen 2
    have u3 := hbR.frozen 3
    have u4 := hbR.frozen 4
    have u5 := hbR.frozen 5
    have u6 := hbR.frozen 6
    have u7 := hbR.frozen 7
    have v0 := hbF.frozen 0
    have v1 := hbF.frozen 1
    have v2 := hbF.frozen 2
    have v3 := hbF.frozen 3
    have v4 := hbF.frozen 4
    have v5 := hbF.frozen 5
    have v6 := hbF.frozen 6
    have v7 := hbF.frozen 7
    have ltR := hbR.lt
    have ltF := hbF.lt
    simp [Fr.cl] at r0 r1 r2 r3 r4 r5 r6 r7 s0 s1 s2 s3 s4 s5 s6 s7
    have HBR := Lib.hid hbR
    have HBF := Lib.hid hbF
    clear hbR hbF
    have ht5 : Touch NoS w4 w5 := (((Touch.refl NoS w4).alloc _).alloc _).trans ht
    have hle : w4.heap.size ≤ w.heap.size := by omega
    have hle2 : w4.heap.size ≤ w.heap.size + 1 := by omega
    have HT5 := Lib.hid ht5
    have HLE := Lib.hid hle
    have HLE2 := Lib.hid hle2
    clear ht ht5 hle hle2 hs4 hw4
    have hne : ¬ (w.heap.size + 1 = w.heap.size) := by omega
    have hne2 : ¬ (w.heap.size = w.heap.size + 1) := by omega
    go_wp2_with fail
    refine bodyPost_ret (v := .tuple #[.agg #[.bool fin, .int .i64 op, .bool true, .int .u8 (nd d / 16777216), .int .u8 (nd d / 65536 % 256), .int .u8 (nd d / 256 % 256), .int .u8 (nd d % 256), .string data], .bool true]) (by simp [results, Tryz.results87, go_sem, World.cell?_setCell_same', World.cell?_setCell_other, r0, r1, r2, r3, r4, r5, r6, r7, hne, hne2]) rfl ?_
    refine ⟨_, rfl, q1.touch (S := NoS) ?_ (fun h => h), q2.no ?_, q3, q4.trans (Touch.of_no ?_)⟩
    all_goals repeat (with_reducible first | exact HT5.out | refine Touch.setNew ?_ HLE.out _ | refine Touch.setNew ?_ HLE2.out _)
end Go.Proofs.YtlnabpoohnphiaaGreat
/- leg: what goes out, in plain Lean; move. -/
namespace Go.Proofs.YtlnabpoohnphiaaGreat
open Go.RowKit
set_option linter.unusedSimpArgs false
set_option linter.unusedVariables false

/-- A frame's bytes; none if it may not be. -/
def fputz (f : Fr) : List Int := if check9 f = 0 then fput f else []
/-- What is to go out. -/
structure Ou where
  ring : List Int
  tail : List Int
  ctl : List Fr
  rest : List Fr
  draw : Int
def Ou.push (M : Nat) (o : Ou) : Ou := { o with ring := o.ring ++ o.tail.take (M - o.ring.length), tail := o.tail.drop (M - o.ring.length) }
def Ou.fr (mk : Bool) (o : Ou) (f : Fr) : Fr := if mk then mask1 f (nd o.draw) else f
def Ou.dr (mk : Bool) (o : Ou) : Int := if mk then nd o.draw else o.draw
def Ou.step (mk : Bool) (o : Ou) : Option Ou :=
  match o.ctl, o.rest with
  | f :: fs, _ => some { o with ctl := fs, draw := o.dr mk, tail := fputz (o.fr mk f) }
  | [], f :: fs => some { o with rest := fs, draw := o.dr mk, tail := fputz (o.fr mk f) }
  | [], [] => none
def Ou.moveN (M : Nat) (mk : Bool) : Nat → Ou → Ou
  | 0, o => o.push M
  | n + 1, o => if (o.push M).tail = [] then match (o.push M).step mk with
    | none => o.push M
    | some o2 => o2.moveN M mk n
    else o.push M
def Ou.left (o : Ou) : Nat := o.ctl.length + o.rest.length
def Ou.move (M : Nat) (mk : Bool) (o : Ou) : Ou := o.moveN M mk o.left
theorem Ou.step_left {mk : Bool} {o o2 : Ou} (h : o.step mk = some o2) : o2.left + 1 = o.left := by
  obtain ⟨r, t, c, s, d⟩ := o
  rcases c with _ | ⟨f, fs⟩
  · rcases s with _ | ⟨f, fs⟩
    · simp [Ou.step] at h
    · simp [Ou.step] at h
      subst h
      simp [Ou.left]
  · simp [Ou.step] at h
    subst h
    simp [Ou.left]
    omega
theorem Ou.push_left (M : Nat) (o : Ou) : (o.push M).left = o.left := rfl
theorem Ou.step_none {mk : Bool} {o : Ou} : o.step mk = none ↔ o.left = 0 := by
  obtain ⟨r, t, c, s, d⟩ := o
  rcases c with _ | ⟨f, fs⟩
  · rcases s with _ | ⟨f, fs⟩
    · simp [Ou.step, Ou.left]
    · simp [Ou.step, Ou.left]
  · simp [Ou.step, Ou.left]
theorem Ou.move_eq (M : Nat) (mk : Bool) (o : Ou) : o.move M mk = if (o.push M).tail = [] then match (o.push M).step mk with
    | none => o.push M
    | some o2 => o2.move M mk
    else o.push M := by
  unfold Ou.move
  rcases h : o.left with _ | n
  · have : (o.push M).step mk = none := Ou.step_none.2 (by rw [Ou.push_left]; exact h)
    simp only [Ou.moveN, this, ite_self]
  · simp only [Ou.moveN]
    split
    · rcases h2 : (o.push M).step mk with _ | o2
      · rfl
      · have := Ou.step_left h2
        rw [Ou.push_left] at this
        simp only
        rw [show o2.left = n from by omega]
    · rfl
end Go.Proofs.YtlnabpoohnphiaaGreat
/- leg: its block; what is to go out in memory; push and next on it. -/
namespace Go.Proofs.YtlnabpoohnphiaaGreat
open Go.RowKit
set_option linter.unusedSimpArgs false
set_option linter.unusedVariables false

/-- What a leg is made of, once and for all. -/
structure Lk where
  routes : Value
  origins : Value
  table : Int
  message : Nat
  frame : Nat
  count : Int
  bytes : Int
  out : Nat
  shake : Int
  idle : Int
  pong : Int
  close : Int
  sg : Nat
  mg : Nat
  mcu : Nat
  rg : Nat
  rb : Nat
  masks : Bool
def lgCells (k : Lk) (vt vc vr : Value) (draw : Int) (sent got : Bool) (wrong : Int) : Array Value :=
  #[k.routes, k.origins, .int .i64 k.table, .int .i64 k.message, .int .i64 k.frame, .int .i64 k.count, .int .i64 k.bytes, .int .i64 k.out, .int .i64 k.shake, .int .i64 k.idle, .int .i64 k.pong, .int .i64 k.close,
    .pointer (some ⟨k.sg, 0, none⟩), .pointer (some ⟨k.mg, 0, none⟩), .pointer (some ⟨k.rg, 0, none⟩), vt, vc, vr, .bool k.masks, .int .u32 draw, .bool sent, .bool got, .int .i64 wrong]
/-- What is to go out, in memory. -/
structure OutH (w : World) (g : Nat) (k : Lk) (o : Ou) (sent got : Bool) (wrong : Int) (vt vc vr : Value) : Prop where
  blk : Blk w g 109 (lgCells k vt vc vr o.draw sent got wrong)
  ring : IsR w k.rg k.rb k.out o.ring
  tail : Win w 5 1 vt o.tail.length (u8s o.tail)
  ctl : Win w 42 8 vc o.ctl.length (frs o.ctl)
  rest : Win w 42 8 vr o.rest.length (frs o.rest)
  bytes : bytesIn o.tail
  good : ∀ f ∈ o.ctl ++ o.rest, f.good
  apart : vt.ownBlock ≠ some k.rb
/-- What moving on may write. -/
def LO (g : Nat) (k : Lk) (i : Nat) : Prop := i = g ∨ RO k.rg k.rb i
theorem Win.of_type {w w' : World} {S : Nat → Prop} {e : TypeId} {size n : Nat} {v : Value} {xs : List Value} (h : Win w e size v n xs) (k : Touch S w w') (hS : ∀ b, S b → ∃ t cs, Blk w b t cs ∧ e ≠ t) : Win w' e size v n xs :=
  h.touch k fun b hb hs => by
    obtain ⟨t, cs, h1, h2⟩ := hS b hs
    obtain ⟨cs', h3⟩ := h.type hb
    exact h3.ne_ h1 h2 rfl
theorem o_push (g : Nat) (k : Lk) (o : Ou) (sent got : Bool) (wrong : Int) (vt vc vr : Value) (w : World) (h : OutH w g k o sent got wrong vt vc vr) :
    Calls Tryz.prog 86 #[.pointer (some ⟨g, 14, none⟩)] w fun e w' => ∃ vt', e = .returned (.bool (decide ((o.push k.out).tail = []))) ∧ OutH w' g k (o.push k.out) sent got wrong vt' vc vr ∧ vt'.ownBlock = vt.ownBlock ∧ Touch (LO g k) w w' := by
  refine (l_push g k.rg k.rb k.out o.ring o.tail h.bytes vt _ w h.blk rfl rfl h.ring h.tail h.apart).mono ?_
  rintro e w' ⟨v', rfl, h1, h2, h3, h4, h5⟩
  have hS : ∀ b, LO g k b → ∃ t cs, Blk w b t cs ∧ 42 ≠ t := by
    obtain ⟨c1, c2, q1, q2⟩ := h.ring.blk
    rintro b (rfl | rfl | rfl)
    · exact ⟨_, _, h.blk, by decide⟩
    · exact ⟨_, _, q1, by decide⟩
    · exact ⟨_, _, q2, by decide⟩
  exact ⟨v', rfl, ⟨h1, h2, h3, h.ctl.of_type h5 hS, h.rest.of_type h5 hS, h.bytes.drop _, h.good, by rw [h4]; exact h.apart⟩, h4, h5⟩
theorem mask1_good {f : Fr} (h : f.good) (d : Int) (h0 : 0 ≤ d) (h1 : d ≤ 4294967295) : (mask1 f d).good := by
  refine ⟨h.1, ?_, h.2.2⟩
  intro x hx
  simp [mask1, Fr.key] at hx
  rcases hx with rfl | rfl | rfl | rfl <;> omega
theorem o_next_none (g : Nat) (k : Lk) (o : Ou) (sent got : Bool) (wrong : Int) (vt vc vr : Value) (w : World) (h : OutH w g k o sent got wrong vt vc vr) (hs : o.step k.masks = none) :
    Calls Tryz.prog 87 #[.pointer (some ⟨g, 0, none⟩)] w fun e w' => e = .returned (.tuple #[.agg (Fr.cs ⟨false, 0, false, 0, 0, 0, 0, ⟨#[]⟩⟩), .bool false]) ∧ Touch NoS w w' := by
  have hl := Ou.step_none.1 hs
  unfold Ou.left at hl
  obtain ⟨A1, c1, hv1, _⟩ := h.ctl.cases
  obtain ⟨A2, c2, hv2, _⟩ := h.rest.cases
  rw [show o.ctl.length = 0 from by omega] at hv1
  rw [show o.rest.length = 0 from by omega] at hv2
  have hb := h.blk
  rw [hv1, hv2] at hb
  exact l_next_none g _ w hb A1 A2 c1 c2 rfl rfl
theorem o_next (g : Nat) (k : Lk) (o o2 : Ou) (sent got : Bool) (wrong : Int) (vt vc vr : Value) (w : World) (h : OutH w g k o sent got wrong vt vc vr) (hs : o.step k.masks = some o2) :
    Calls Tryz.prog 87 #[.pointer (some ⟨g, 0, none⟩)] w fun e w' => ∃ f vc' vr', e = .returned (.tuple #[.agg f.cs, .bool true]) ∧ f.good ∧ o2.tail = fputz f ∧ o2.ring = o.ring ∧ OutH w' g k { o2 with tail := o.tail } sent got wrong vt vc' vr' ∧ vc'.ownBlock = vc.ownBlock ∧ vr'.ownBlock = vr.ownBlock ∧ Touch (At g) w w' := by
  obtain ⟨ring, tail, ctl, rest, draw⟩ := o
  have hS : ∀ b, At g b → ∃ t cs, Blk w b t cs ∧ 42 ≠ t := by
    rintro b rfl
    exact ⟨_, _, h.blk, by decide⟩
  have hS2 : ∀ b, At g b → ∃ t cs, Blk w b t cs ∧ 5 ≠ t := by
    rintro b rfl
    exact ⟨_, _, h.blk, by decide⟩
  have hrg : g ≠ k.rg ∧ g ≠ k.rb := by
    obtain ⟨c1, c2, q1, q2⟩ := h.ring.blk
    exact ⟨h.blk.ne_ q1 (by decide), h.blk.ne_ q2 (by decide)⟩
  have hgd := h.good
  rcases ctl with _ | ⟨f, fs⟩
  · rcases rest with _ | ⟨f, fs⟩
    · simp [Ou.step] at hs
    · obtain ⟨A1, c1, hv1, _⟩ := h.ctl.cases
      simp [Ou.step] at hs
      subst hs
      have hf : f.good := hgd f (by simp)
      have hb := h.blk
      rw [hv1] at hb
      rcases hmk : k.masks with _ | _
      · refine (l_next_17_p g _ w hb A1 c1 rfl vr f fs draw rfl h.rest (by rw [← hmk]; rfl) rfl).mono ?_
        rintro e w' ⟨v', rfl, h1, h2, h3, h4⟩
        exact ⟨f, vc, v', rfl, hf, by simp [Ou.fr], rfl, ⟨by rw [hv1]; simpa [Ou.dr, lgCells] using h1, h.ring.touch h4 (fun e => hrg.1 e.symm) (fun e => hrg.2 e.symm), h.tail.of_type h4 hS2, h.ctl.of_type h4 hS, h2, h.bytes, fun x hx => hgd x (by simp at hx ⊢; exact .inr hx), h.apart⟩, rfl, h3, h4⟩
      · refine (l_next_17_m g _ w hb A1 c1 rfl vr f fs draw rfl h.rest (by rw [← hmk]; rfl) rfl).mono ?_
        rintro e w' ⟨v', rfl, h1, h2, h3, h4⟩
        exact ⟨mask1 f (nd draw), vc, v', rfl, mask1_good hf _ (nd_in _).1 (nd_in _).2, by simp [Ou.fr], rfl, ⟨by rw [hv1]; simpa [Ou.dr, lgCells] using h1, h.ring.touch h4 (fun e => hrg.1 e.symm) (fun e => hrg.2 e.symm), h.tail.of_type h4 hS2, h.ctl.of_type h4 hS, h2, h.bytes, fun x hx => hgd x (by simp at hx ⊢; exact .inr hx), h.apart⟩, rfl, h3, h4⟩
  · simp [Ou.step] at hs
    subst hs
    have hf : f.good := hgd f (by simp)
    have hb := h.blk
    rcases hmk : k.masks with _ | _
    · refine (l_next_16_p g _ w hb vc f fs draw rfl h.ctl (by rw [← hmk]; rfl) rfl).mono ?_
      rintro e w' ⟨v', rfl, h1, h2, h3, h4⟩
      exact ⟨f, v', vr, rfl, hf, by simp [Ou.fr], rfl, ⟨by simpa [Ou.dr, lgCells] using h1, h.ring.touch h4 (fun e => hrg.1 e.symm) (fun e => hrg.2 e.symm), h.tail.of_type h4 hS2, h2, h.rest.of_type h4 hS, h.bytes, fun x hx => hgd x (by simp at hx ⊢; exact .inr hx), h.apart⟩, h3, rfl, h4⟩
    · refine (l_next_16_m g _ w hb vc f fs draw rfl h.ctl (by rw [← hmk]; rfl) rfl).mono ?_
      rintro e w' ⟨v', rfl, h1, h2, h3, h4⟩
      exact ⟨mask1 f (nd draw), v', vr, rfl, mask1_good hf _ (nd_in _).1 (nd_in _).2, by simp [Ou.fr], rfl, ⟨by simpa [Ou.dr, lgCells] using h1, h.ring.touch h4 (fun e => hrg.1 e.symm) (fun e => hrg.2 e.symm), h.tail.of_type h4 hS2, h2, h.rest.of_type h4 hS, h.bytes, fun x hx => hgd x (by simp at hx ⊢; exact .inr hx), h.apart⟩, h3, rfl, h4⟩
end Go.Proofs.YtlnabpoohnphiaaGreat
