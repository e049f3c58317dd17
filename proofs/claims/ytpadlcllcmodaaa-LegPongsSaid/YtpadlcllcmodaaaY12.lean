/- leg: next. -/
import Derived.Test.YtpadlcllcmodaaaY07
import Derived.Test.YtpadlcllcmodaaaY11
/- leg: next. -/
namespace Go.Proofs.Ytpadlcllcmodaaa
open Go.RowKit
set_option linter.unusedSimpArgs false
set_option linter.unusedVariables false

/-- The next number. -/
def nd (d : Int) : Int := (d * 1664525 + 1013904223) % 4294967296
theorem nd_in (d : Int) : 0 ≤ nd d ∧ nd d ≤ 4294967295 := by
  unfold nd
  omega
/-- The first one of a slice of frames is taken off. -/
theorem win_fr {w : World} {v : Value} {f : Fr} {fs : List Fr} (h : Win w 59 8 v (f :: fs).length (frs (f :: fs))) : ∃ g off c, v = .slice (some ⟨g, off, none⟩) (fs.length + 1) c ∧ fs.length + 1 ≤ c ∧ c ≤ maxLen ∧ g < w.heap.size ∧ Rd w (some ⟨g, off, none⟩) (frs (f :: fs)) ∧
    (∃ cs, Blk w g 59 cs) ∧ Win w 59 8 (.slice (if c = 1 then some ⟨g, off, none⟩ else some ⟨g, off + 8, none⟩) fs.length (c - 1)) fs.length (frs fs) := by
  obtain ⟨A, c, rfl, h1, h2, h3, h4, h5⟩ := h.cases
  rcases A with _ | ⟨g, off, sp⟩
  · have := (h5 rfl).1
    simp at this
  · obtain ⟨rfl, hlt⟩ := h4 _ rfl
    have hc := h.cut 1 (by simp)
    refine ⟨g, off, c, rfl, h1, h2, hlt, h3, h.type rfl, ?_⟩
    have e1 : (frs (f :: fs)).drop (1 * 8) = frs fs := by simp [frs, Fr.cl]
    rw [e1] at hc
    simpa using hc

set_option maxHeartbeats 3200000 in
set_option maxRecDepth 100000 in
theorem l_next_none (g : Nat) (cs : Array Value) (w : World) (hb : Blk w g 71 cs) (A1 A2 : Option Addr) (c1 c2 : Nat) (h16 : cs[16]? = some (.slice A1 0 c1)) (h17 : cs[17]? = some (.slice A2 0 c2)) :
    Calls Try.prog 55 #[.pointer (some ⟨g, 0, none⟩)] w fun e w' => e = .returned (.tuple #[.agg (Fr.cs ⟨false, 0, false, 0, 0, 0, 0, ⟨#[]⟩⟩), .bool false]) ∧ Touch NoS w w' := by
  have c16 := (hb.cell 16).trans h16
  have c17 := (hb.cell 17).trans h17
  have glt := hb.lt
  clear hb
  simp only [Fr.cs]
  go_enter Try.func55, Try.ntmps55
  go_wp2_with fail
  refine bodyPost_ret (v := .tuple #[.agg #[.bool false, .int .i64 0, .bool false, .int .u8 0, .int .u8 0, .int .u8 0, .int .u8 0, .string ⟨#[]⟩], .bool false]) (by simp [results, Try.results55, go_sem]) rfl ⟨rfl, (Touch.refl _ _).alloc _⟩

set_option maxHeartbeats 3200000 in
set_option maxRecDepth 100000 in
theorem l_next_16_p (g : Nat) (cs : Array Value) (w : World) (hb : Blk w g 71 cs) (v : Value) (f : Fr) (fs : List Fr) (d : Int) (h16 : cs[16]? = some v) (hw : Win w 59 8 v (f :: fs).length (frs (f :: fs)))
    (h18 : cs[18]? = some (.bool false)) (h19 : cs[19]? = some (.int .u32 d)) :
    Calls Try.prog 55 #[.pointer (some ⟨g, 0, none⟩)] w fun e w' => ∃ v', e = .returned (.tuple #[.agg (f).cs, .bool true]) ∧ Blk w' g 71 ((cs.setIfInBounds 16 v')) ∧
      Win w' 59 8 v' fs.length (frs fs) ∧ v'.ownBlock = v.ownBlock ∧ Touch (At g) w w' := by
  obtain ⟨gA, off, c, rfl, hlc, hcm, hga, hrd, ⟨as_, hta⟩, hcut⟩ := win_fr hw
  obtain ⟨gA2, oA2, hA2, _, a0, a1, a2, a3, a4, a5, a6, a7⟩ := fr_cells hrd 0 (by simp)
  injection hA2 with hA2
  injection hA2 with hA2 hA3
  subst hA2 hA3
  simp only [List.getElem_cons_zero, Nat.zero_mul, Nat.add_zero] at a0 a1 a2 a3 a4 a5 a6 a7
  have hgA : gA ≠ g := hta.ne_ hb (by decide)
  obtain ⟨n, hn⟩ : ∃ n, n = fs.length := ⟨_, rfl⟩
  rw [← hn] at h16 hlc hcut ⊢
  have HN := Lib.hid hn
  have c16 := (hb.cell 16).trans h16
  have c18 := (hb.cell 18).trans h18
  have c19 := (hb.cell 19).trans h19
  have f16 := hb.frozen 16
  have f19 := hb.frozen 19
  have glt := hb.lt
  have HB := Lib.hid hb
  have HTA := Lib.hid hta
  have HFIN : Hid (∀ V, V = Value.slice (if c = 1 then some ⟨gA, off, none⟩ else some ⟨gA, off + 8, none⟩) n (c - 1) → Blk (w.setCell ⟨g, 16, none⟩ V) g 71 ((cs.setIfInBounds 16 V)) ∧ Win (w.setCell ⟨g, 16, none⟩ V) 59 8 V n (frs fs) ∧ V.ownBlock = (Value.slice (some ⟨gA, off, none⟩) (n + 1) c).ownBlock ∧ Touch (At g) w (w.setCell ⟨g, 16, none⟩ V)) := by
    show ∀ V, _
    intro V hV
    rw [← hV] at hcut
    have hVo : V.ownBlock = some gA := by rw [hV]; split <;> rfl
    have ht : Touch (At g) w (w.setCell ⟨g, 16, none⟩ V) := ((Touch.refl (At g) w).setAt 16 V)
    exact ⟨(HB.out.set_ 16 V), hcut.touch ht (fun b hbo h => by rw [hVo] at hbo; injection hbo with hbo; exact hgA (hbo.trans h)), hVo, ht⟩
  have hnd : (d * 1664525 + 1013904223) % 4294967296 = nd d := rfl
  obtain ⟨fin, op, masked, k0, k1, k2, k3, data⟩ := f
  clear hb hw hrd hcut hn hta h16 h18 h19 
  simp only [Fr.cs] at *
  by_cases hc1 : c = 1
  · subst hc1
    obtain rfl : n = 0 := by omega
    obtain ⟨q1, q2, q3, q4⟩ := HFIN.out (.slice (some ⟨gA, off, none⟩) 0 0) (by simp)
    clear HFIN
    go_enter Try.func55, Try.ntmps55
    go_wp2_with fail
    refine bodyPost_ret (v := .tuple #[.agg #[.bool fin, .int .i64 op, .bool masked, .int .u8 k0, .int .u8 k1, .int .u8 k2, .int .u8 k3, .string data], .bool true]) (by simp [results, Try.results55, go_sem]) rfl ?_
    first
      | exact ⟨_, rfl, (q1.alloc _).alloc _, q2.no (((Touch.refl _ _).alloc _).alloc _), q3, (q4.alloc _).alloc _⟩
      | exact ⟨rfl, _, (q1.alloc _).alloc _, q2.no (((Touch.refl _ _).alloc _).alloc _), q3, (q4.alloc _).alloc _⟩
  · obtain ⟨q1, q2, q3, q4⟩ := HFIN.out (.slice (some ⟨gA, off + 8, none⟩) n (c - 1)) (by simp [hc1])
    clear HFIN
    go_enter Try.func55, Try.ntmps55
    go_wp2_with fail
    refine bodyPost_ret (v := .tuple #[.agg #[.bool fin, .int .i64 op, .bool masked, .int .u8 k0, .int .u8 k1, .int .u8 k2, .int .u8 k3, .string data], .bool true]) (by simp [results, Try.results55, go_sem]) rfl ?_
    first
      | exact ⟨_, rfl, (q1.alloc _).alloc _, q2.no (((Touch.refl _ _).alloc _).alloc _), q3, (q4.alloc _).alloc _⟩
      | exact ⟨rfl, _, (q1.alloc _).alloc _, q2.no (((Touch.refl _ _).alloc _).alloc _), q3, (q4.alloc _).alloc _⟩

set_option maxHeartbeats 3200000 in
set_option maxRecDepth 100000 in
theorem l_next_16_m (g : Nat) (cs : Array Value) (w : World) (hb : Blk w g 71 cs) (v : Value) (f : Fr) (fs : List Fr) (d : Int) (h16 : cs[16]? = some v) (hw : Win w 59 8 v (f :: fs).length (frs (f :: fs)))
    (h18 : cs[18]? = some (.bool true)) (h19 : cs[19]? = some (.int .u32 d)) :
    Calls Try.prog 55 #[.pointer (some ⟨g, 0, none⟩)] w fun e w' => ∃ v', e = .returned (.tuple #[.agg (mask1 f (nd d)).cs, .bool true]) ∧ Blk w' g 71 ((cs.setIfInBounds 16 v').setIfInBounds 19 (.int .u32 (nd d))) ∧
      Win w' 59 8 v' fs.length (frs fs) ∧ v'.ownBlock = v.ownBlock ∧ Touch (At g) w w' := by
  obtain ⟨gA, off, c, rfl, hlc, hcm, hga, hrd, ⟨as_, hta⟩, hcut⟩ := win_fr hw
  obtain ⟨gA2, oA2, hA2, _, a0, a1, a2, a3, a4, a5, a6, a7⟩ := fr_cells hrd 0 (by simp)
  injection hA2 with hA2
  injection hA2 with hA2 hA3
  subst hA2 hA3
  simp only [List.getElem_cons_zero, Nat.zero_mul, Nat.add_zero] at a0 a1 a2 a3 a4 a5 a6 a7
  have hgA : gA ≠ g := hta.ne_ hb (by decide)
  obtain ⟨n, hn⟩ : ∃ n, n = fs.length := ⟨_, rfl⟩
  rw [← hn] at h16 hlc hcut ⊢
  have HN := Lib.hid hn
  have c16 := (hb.cell 16).trans h16
  have c18 := (hb.cell 18).trans h18
  have c19 := (hb.cell 19).trans h19
  have f16 := hb.frozen 16
  have f19 := hb.frozen 19
  have glt := hb.lt
  have HB := Lib.hid hb
  have HTA := Lib.hid hta
  have HFIN : Hid (∀ V, V = Value.slice (if c = 1 then some ⟨gA, off, none⟩ else some ⟨gA, off + 8, none⟩) n (c - 1) → Blk ((w.setCell ⟨g, 16, none⟩ V).setCell ⟨g, 19, none⟩ (.int .u32 (nd d))) g 71 ((cs.setIfInBounds 16 V).setIfInBounds 19 (.int .u32 (nd d))) ∧ Win ((w.setCell ⟨g, 16, none⟩ V).setCell ⟨g, 19, none⟩ (.int .u32 (nd d))) 59 8 V n (frs fs) ∧ V.ownBlock = (Value.slice (some ⟨gA, off, none⟩) (n + 1) c).ownBlock ∧ Touch (At g) w ((w.setCell ⟨g, 16, none⟩ V).setCell ⟨g, 19, none⟩ (.int .u32 (nd d)))) := by
    show ∀ V, _
    intro V hV
    rw [← hV] at hcut
    have hVo : V.ownBlock = some gA := by rw [hV]; split <;> rfl
    have ht : Touch (At g) w ((w.setCell ⟨g, 16, none⟩ V).setCell ⟨g, 19, none⟩ (.int .u32 (nd d))) := ((Touch.refl (At g) w).setAt 16 V).setAt 19 (.int .u32 (nd d))
    exact ⟨(HB.out.set_ 16 V).set_ 19 (.int .u32 (nd d)), hcut.touch ht (fun b hbo h => by rw [hVo] at hbo; injection hbo with hbo; exact hgA (hbo.trans h)), hVo, ht⟩
  have hnd : (d * 1664525 + 1013904223) % 4294967296 = nd d := rfl
  obtain ⟨fin, op, masked, k0, k1, k2, k3, data⟩ := f
  clear hb hw hrd hcut hn hta h16 h18 h19 
  simp only [mask1, Fr.cs] at *
  by_cases hc1 : c = 1
  · subst hc1
    obtain rfl : n = 0 := by omega
    obtain ⟨q1, q2, q3, q4⟩ := HFIN.out (.slice (some ⟨gA, off, none⟩) 0 0) (by simp)
    clear HFIN
    go_enter Try.func55, Try.ntmps55
    go_wp2_with fail
    refine (m_key (nd d) (nd_in d).1 (nd_in d).2 _).mono ?_
    rintro e w5 ⟨rfl, ht⟩
    obtain ⟨w4, hw4⟩ : ∃ w4, w4 = ((w.setCell ⟨g, 16, none⟩ (.slice (some ⟨gA, off, none⟩) 0 0)).setCell ⟨g, 19, none⟩ (.int .u32 (nd d))) := ⟨_, rfl⟩
    rw [← hw4] at ht q1 q2 q4
    have hs4 : w4.heap.size = w.heap.size := by rw [hw4]; simp [World.setCell]
    have hbR : Blk w5 w.heap.size 59 (Fr.cl ⟨false, 0, false, 0, 0, 0, 0, ⟨#[]⟩⟩).toArray := by
      have := ((Blk.new w4 59 (Fr.cl ⟨false, 0, false, 0, 0, 0, 0, ⟨#[]⟩⟩).toArray).alloc (.cells (Fr.cl ⟨fin, op, masked, k0, k1, k2, k3, data⟩).toArray 59)).touch ht (fun h => h)
      rw [hs4] at this
      exact this
    have hbF : Blk w5 (w.heap.size + 1) 59 (Fr.cl ⟨fin, op, masked, k0, k1, k2, k3, data⟩).toArray := by
      have := (Blk.new (w4.alloc (.cells (Fr.cl ⟨false, 0, false, 0, 0, 0, 0, ⟨#[]⟩⟩).toArray 59)) 59 (Fr.cl ⟨fin, op, masked, k0, k1, k2, k3, data⟩).toArray).touch ht (fun h => h)
      rw [show (w4.alloc (.cells (Fr.cl ⟨false, 0, false, 0, 0, 0, 0, ⟨#[]⟩⟩).toArray 59)).heap.size = w.heap.size + 1 from by simp [hs4]] at this
      exact this
    have r0 := hbR.cell 0
    have r1 := hbR.cell 1
    have r2 := hbR.cell 2
    have r3 := hbR.cell 3
    have r4 := hbR.cell 4
    have r5 := hbR.cell 5
    have r6 := hbR.cell 6
    have r7 := hbR.cell 7
    have s0 := hbF.cell 0
    have s1 := hbF.cell 1
    have s2 := hbF.cell 2
    have s3 := hbF.cell 3
    have s4 := hbF.cell 4
    have s5 := hbF.cell 5
    have s6 := hbF.cell 6
    have s7 := hbF.cell 7
    have u0 := hbR.frozen 0
    have u1 := hbR.frozen 1
    have u2 := hbR.frozen 2
    have u3 := hbR.frozen 3
    have u4 := hbR.frozen 4
    have u5 := hbR.frozen 5
    have u6 := hbR.frozen 6
    have u7 := hbR.frozen 7
    have v0 := hbF.frozen 0
    have v1 := hbF.frozen 1
    have v2 := hbF.frozen 2
    have v3 := hbF.frozen 3
    have v4 := hbF.frozen 4
    have v5 := hbF.frozen 5
    have v6 := hbF.frozen 6
    have v7 := hbF.frozen 7
    have ltR := hbR.lt
    have ltF := hbF.lt
    simp [Fr.cl] at r0 r1 r2 r3 r4 r5 r6 r7 s0 s1 s2 s3 s4 s5 s6 s7
    have HBR := Lib.hid hbR
    have HBF := Lib.hid hbF
    clear hbR hbF
    have ht5 : Touch NoS w4 w5 := (((Touch.refl NoS w4).alloc _).alloc _).trans ht
    have hle : w4.heap.size ≤ w.heap.size := by omega
    have hle2 : w4.heap.size ≤ w.heap.size + 1 := by omega
    have HT5 := Lib.hid ht5
    have HLE := Lib.hid hle
    have HLE2 := Lib.hid hle2
    clear ht ht5 hle hle2 hs4 hw4
    have hne : ¬ (w.heap.size + 1 = w.heap.size) := by omega
    have hne2 : ¬ (w.heap.size = w.heap.size + 1) := by omega
    go_wp2_with fail
    refine bodyPost_ret (v := .tuple #[.agg #[.bool fin, .int .i64 op, .bool true, .int .u8 (nd d / 16777216), .int .u8 (nd d / 65536 % 256), .int .u8 (nd d / 256 % 256), .int .u8 (nd d % 256), .string data], .bool true]) (by simp [results, Try.results55, go_sem, World.cell?_setCell_same', World.cell?_setCell_other, r0, r1, r2, r3, r4, r5, r6, r7, hne, hne2]) rfl ?_
    refine ⟨_, rfl, q1.touch (S := NoS) ?_ (fun h => h), q2.no ?_, q3, q4.trans (Touch.of_no ?_)⟩
    all_goals repeat (with_reducible first | exact HT5.out | refine Touch.setNew ?_ HLE.out _ | refine Touch.setNew ?_ HLE2.out _)
  · obtain ⟨q1, q2, q3, q4⟩ := HFIN.out (.slice (some ⟨gA, off + 8, none⟩) n (c - 1)) (by simp [hc1])
    clear HFIN
    go_enter Try.func55, Try.ntmps55
    go_wp2_with fail
    refine (m_key (nd d) (nd_in d).1 (nd_in d).2 _).mono ?_
    rintro e w5 ⟨rfl, ht⟩
    obtain ⟨w4, hw4⟩ : ∃ w4, w4 = ((w.setCell ⟨g, 16, none⟩ (.slice (some ⟨gA, off + 8, none⟩) n (c - 1))).setCell ⟨g, 19, none⟩ (.int .u32 (nd d))) := ⟨_, rfl⟩
    rw [← hw4] at ht q1 q2 q4
    have hs4 : w4.heap.size = w.heap.size := by rw [hw4]; simp [World.setCell]
    have hbR : Blk w5 w.heap.size 59 (Fr.cl ⟨false, 0, false, 0, 0, 0, 0, ⟨#[]⟩⟩).toArray := by
      have := ((Blk.new w4 59 (Fr.cl ⟨false, 0, false, 0, 0, 0, 0, ⟨#[]⟩⟩).toArray).alloc (.cells (Fr.cl ⟨fin, op, masked, k0, k1, k2, k3, data⟩).toArray 59)).touch ht (fun h => h)
      rw [hs4] at this
      exact this
    have hbF : Blk w5 (w.heap.size + 1) 59 (Fr.cl ⟨fin, op, masked, k0, k1, k2, k3, data⟩).toArray := by
      have := (Blk.new (w4.alloc (.cells (Fr.cl ⟨false, 0, false, 0, 0, 0, 0, ⟨#[]⟩⟩).toArray 59)) 59 (Fr.cl ⟨fin, op, masked, k0, k1, k2, k3, data⟩).toArray).touch ht (fun h => h)
      rw [show (w4.alloc (.cells (Fr.cl ⟨false, 0, false, 0, 0, 0, 0, ⟨#[]⟩⟩).toArray 59)).heap.size = w.heap.size + 1 from by simp [hs4]] at this
      exact this
    have r0 := hbR.cell 0
    have r1 := hbR.cell 1
    have r2 := hbR.cell 2
    have r3 := hbR.cell 3
    have r4 := hbR.cell 4
    have r5 := hbR.cell 5
    have r6 := hbR.cell 6
    have r7 := hbR.cell 7
    have s0 := hbF.cell 0
    have s1 := hbF.cell 1
    have s2 := hbF.cell 2
    have s3 := hbF.cell 3
    have s4 := hbF.cell 4
    have s5 := hbF.cell 5
    have s6 := hbF.cell 6
    have s7 := hbF.cell 7
    have u0 := hbR.frozen 0
    have u1 := hbR.frozen 1
    have u2 := hbR.frozen 2
    have u3 := hbR.frozen 3
    have u4 := hbR.frozen 4
    have u5 := hbR.frozen 5
    have u6 := hbR.frozen 6
    have u7 := hbR.frozen 7
    have v0 := hbF.frozen 0
    have v1 := hbF.frozen 1
    have v2 := hbF.frozen 2
    have v3 := hbF.frozen 3
    have v4 := hbF.frozen 4
    have v5 := hbF.frozen 5
    have v6 := hbF.frozen 6
    have v7 := hbF.frozen 7
    have ltR := hbR.lt
    have ltF := hbF.lt
    simp [Fr.cl] at r0 r1 r2 r3 r4 r5 r6 r7 s0 s1 s2 s3 s4 s5 s6 s7
    have HBR := Lib.hid hbR
    have HBF := Lib.hid hbF
    clear hbR hbF
    have ht5 : Touch NoS w4 w5 := (((Touch.refl NoS w4).alloc _).alloc _).trans ht
    have hle : w4.heap.size ≤ w.heap.size := by omega
    have hle2 : w4.heap.size ≤ w.heap.size + 1 := by omega
    have HT5 := Lib.hid ht5
    have HLE := Lib.hid hle
    have HLE2 := Lib.hid hle2
    clear ht ht5 hle hle2 hs4 hw4
    have hne : ¬ (w.heap.size + 1 = w.heap.size) := by omega
    have hne2 : ¬ (w.heap.size = w.heap.size + 1) := by omega
    go_wp2_with fail
    refine bodyPost_ret (v := .tuple #[.agg #[.bool fin, .int .i64 op, .bool true, .int .u8 (nd d / 16777216), .int .u8 (nd d / 65536 % 256), .int .u8 (nd d / 256 % 256), .int .u8 (nd d % 256), .string data], .bool true]) (by simp [results, Try.results55, go_sem, World.cell?_setCell_same', World.cell?_setCell_other, r0, r1, r2, r3, r4, r5, r6, r7, hne, hne2]) rfl ?_
    refine ⟨_, rfl, q1.touch (S := NoS) ?_ (fun h => h), q2.no ?_, q3, q4.trans (Touch.of_no ?_)⟩
    all_goals repeat (with_reducible first | exact HT5.out | refine Touch.setNew ?_ HLE.out _ | refine Touch.setNew ?_ HLE2.out _)

set_option maxHeartbeats 3200000 in
set_option maxRecDepth 100000 in
theorem l_next_17_p (g : Nat) (cs : Array Value) (w : World) (hb : Blk w g 71 cs) (A1 : Option Addr) (c1 : Nat) (h16 : cs[16]? = some (.slice A1 0 c1)) (v : Value) (f : Fr) (fs : List Fr) (d : Int) (h17 : cs[17]? = some v) (hw : Win w 59 8 v (f :: fs).length (frs (f :: fs)))
    (h18 : cs[18]? = some (.bool false)) (h19 : cs[19]? = some (.int .u32 d)) :
    Calls Try.prog 55 #[.pointer (some ⟨g, 0, none⟩)] w fun e w' => ∃ v', e = .returned (.tuple #[.agg (f).cs, .bool true]) ∧ Blk w' g 71 ((cs.setIfInBounds 17 v')) ∧
      Win w' 59 8 v' fs.length (frs fs) ∧ v'.ownBlock = v.ownBlock ∧ Touch (At g) w w' := by
  obtain ⟨gA, off, c, rfl, hlc, hcm, hga, hrd, ⟨as_, hta⟩, hcut⟩ := win_fr hw
  obtain ⟨gA2, oA2, hA2, _, a0, a1, a2, a3, a4, a5, a6, a7⟩ := fr_cells hrd 0 (by simp)
  injection hA2 with hA2
  injection hA2 with hA2 hA3
  subst hA2 hA3
  simp only [List.getElem_cons_zero, Nat.zero_mul, Nat.add_zero] at a0 a1 a2 a3 a4 a5 a6 a7
  have hgA : gA ≠ g := hta.ne_ hb (by decide)
  obtain ⟨n, hn⟩ : ∃ n, n = fs.length := ⟨_, rfl⟩
  rw [← hn] at h17 hlc hcut ⊢
  have HN := Lib.hid hn
  have c16 := (hb.cell 16).trans h16
  have c17 := (hb.cell 17).trans h17
  have c18 := (hb.cell 18).trans h18
  have c19 := (hb.cell 19).trans h19
  have f17 := hb.frozen 17
  have f19 := hb.frozen 19
  have glt := hb.lt
  have HB := Lib.hid hb
  have HTA := Lib.hid hta
  have HFIN : Hid (∀ V, V = Value.slice (if c = 1 then some ⟨gA, off, none⟩ else some ⟨gA, off + 8, none⟩) n (c - 1) → Blk (w.setCell ⟨g, 17, none⟩ V) g 71 ((cs.setIfInBounds 17 V)) ∧ Win (w.setCell ⟨g, 17, none⟩ V) 59 8 V n (frs fs) ∧ V.ownBlock = (Value.slice (some ⟨gA, off, none⟩) (n + 1) c).ownBlock ∧ Touch (At g) w (w.setCell ⟨g, 17, none⟩ V)) := by
    show ∀ V, _
    intro V hV
    rw [← hV] at hcut
    have hVo : V.ownBlock = some gA := by rw [hV]; split <;> rfl
    have ht : Touch (At g) w (w.setCell ⟨g, 17, none⟩ V) := ((Touch.refl (At g) w).setAt 17 V)
    exact ⟨(HB.out.set_ 17 V), hcut.touch ht (fun b hbo h => by rw [hVo] at hbo; injection hbo with hbo; exact hgA (hbo.trans h)), hVo, ht⟩
  have hnd : (d * 1664525 + 1013904223) % 4294967296 = nd d := rfl
  obtain ⟨fin, op, masked, k0, k1, k2, k3, data⟩ := f
  clear hb hw hrd hcut hn hta h17 h18 h19 h16
  simp only [Fr.cs] at *
  by_cases hc1 : c = 1
  · subst hc1
    obtain rfl : n = 0 := by omega
    obtain ⟨q1, q2, q3, q4⟩ := HFIN.out (.slice (some ⟨gA, off, none⟩) 0 0) (by simp)
    clear HFIN
    go_enter Try.func55, Try.ntmps55
    go_wp2_with fail
    refine bodyPost_ret (v := .tuple #[.agg #[.bool fin, .int .i64 op, .bool masked, .int .u8 k0, .int .u8 k1, .int .u8 k2, .int .u8 k3, .string data], .bool true]) (by simp [results, Try.results55, go_sem]) rfl ?_
    first
      | exact ⟨_, rfl, (q1.alloc _).alloc _, q2.no (((Touch.refl _ _).alloc _).alloc _), q3, (q4.alloc _).alloc _⟩
      | exact ⟨rfl, _, (q1.alloc _).alloc _, q2.no (((Touch.refl _ _).alloc _).alloc _), q3, (q4.alloc _).alloc _⟩
  · obtain ⟨q1, q2, q3, q4⟩ := HFIN.out (.slice (some ⟨gA, off + 8, none⟩) n (c - 1)) (by simp [hc1])
    clear HFIN
    go_enter Try.func55, Try.ntmps55
    go_wp2_with fail
    refine bodyPost_ret (v := .tuple #[.agg #[.bool fin, .int .i64 op, .bool masked, .int .u8 k0, .int .u8 k1, .int .u8 k2, .int .u8 k3, .string data], .bool true]) (by simp [results, Try.results55, go_sem]) rfl ?_
    first
      | exact ⟨_, rfl, (q1.alloc _).alloc _, q2.no (((Touch.refl _ _).alloc _).alloc _), q3, (q4.alloc _).alloc _⟩
      | exact ⟨rfl, _, (q1.alloc _).alloc _, q2.no (((Touch.refl _ _).alloc _).alloc _), q3, (q4.alloc _).alloc _⟩

set_option maxHeartbeats 3200000 in
set_option maxRecDepth 100000 in
theorem l_next_17_m (g : Nat) (cs : Array Value) (w : World) (hb : Blk w g 71 cs) (A1 : Option Addr) (c1 : Nat) (h16 : cs[16]? = some (.slice A1 0 c1)) (v : Value) (f : Fr) (fs : List Fr) (d : Int) (h17 : cs[17]? = some v) (hw : Win w 59 8 v (f :: fs).length (frs (f :: fs)))
    (h18 : cs[18]? = some (.bool true)) (h19 : cs[19]? = some (.int .u32 d)) :
    Calls Try.prog 55 #[.pointer (some ⟨g, 0, none⟩)] w fun e w' => ∃ v', e = .returned (.tuple #[.agg (mask1 f (nd d)).cs, .bool true]) ∧ Blk w' g 71 ((cs.setIfInBounds 17 v').setIfInBounds 19 (.int .u32 (nd d))) ∧
      Win w' 59 8 v' fs.length (frs fs) ∧ v'.ownBlock = v.ownBlock ∧ Touch (At g) w w' := by
  obtain ⟨gA, off, c, rfl, hlc, hcm, hga, hrd, ⟨as_, hta⟩, hcut⟩ := win_fr hw
  obtain ⟨gA2, oA2, hA2, _, a0, a1, a2, a3, a4, a5, a6, a7⟩ := fr_cells hrd 0 (by simp)
  injection hA2 with hA2
  injection hA2 with hA2 hA3
  subst hA2 hA3
  simp only [List.getElem_cons_zero, Nat.zero_mul, Nat.add_zero] at a0 a1 a2 a3 a4 a5 a6 a7
  have hgA : gA ≠ g := hta.ne_ hb (by decide)
  obtain ⟨n, hn⟩ : ∃ n, n = fs.length := ⟨_, rfl⟩
  rw [← hn] at h17 hlc hcut ⊢
  have HN := Lib.hid hn
  have c16 := (hb.cell 16).trans h16
  have c17 := (hb.cell 17).trans h17
  have c18 := (hb.cell 18).trans h18
  have c19 := (hb.cell 19).trans h19
  have f17 := hb.frozen 17
  have f19 := hb.frozen 19
  have glt := hb.lt
  have HB := Lib.hid hb
  have HTA := Lib.hid hta
  have HFIN : Hid (∀ V, V = Value.slice (if c = 1 then some ⟨gA, off, none⟩ else some ⟨gA, off + 8, none⟩) n (c - 1) → Blk ((w.setCell ⟨g, 17, none⟩ V).setCell ⟨g, 19, none⟩ (.int .u32 (nd d))) g 71 ((cs.setIfInBounds 17 V).setIfInBounds 19 (.int .u32 (nd d))) ∧ Win ((w.setCell ⟨g, 17, none⟩ V).setCell ⟨g, 19, none⟩ (.int .u32 (nd d))) 59 8 V n (frs fs) ∧ V.ownBlock = (Value.slice (some ⟨gA, off, none⟩) (n + 1) c).ownBlock ∧ Touch (At g) w ((w.setCell ⟨g, 17, none⟩ V).setCell ⟨g, 19, none⟩ (.int .u32 (nd d)))) := by
    show ∀ V, _
    intro V hV
    rw [← hV] at hcut
    have hVo : V.ownBlock = some gA := by rw [hV]; split <;> rfl
    have ht : Touch (At g) w ((w.setCell ⟨g, 17, none⟩ V).setCell ⟨g, 19, none⟩ (.int .u32 (nd d))) := ((Touch.refl (At g) w).setAt 17 V).setAt 19 (.int .u32 (nd d))
    exact ⟨(HB.out.set_ 17 V).set_ 19 (.int .u32 (nd d)), hcut.touch ht (fun b hbo h => by rw [hVo] at hbo; injection hbo with hbo; exact hgA (hbo.trans h)), hVo, ht⟩
  have hnd : (d * 1664525 + 1013904223) % 4294967296 = nd d := rfl
  obtain ⟨fin, op, masked, k0, k1, k2, k3, data⟩ := f
  clear hb hw hrd hcut hn hta h17 h18 h19 h16
  simp only [mask1, Fr.cs] at *
  by_cases hc1 : c = 1
  · subst hc1
    obtain rfl : n = 0 := by omega
    obtain ⟨q1, q2, q3, q4⟩ := HFIN.out (.slice (some ⟨gA, off, none⟩) 0 0) (by simp)
    clear HFIN
    go_enter Try.func55, Try.ntmps55
    go_wp2_with fail
    refine (m_key (nd d) (nd_in d).1 (nd_in d).2 _).mono ?_
    rintro e w5 ⟨rfl, ht⟩
    obtain ⟨w4, hw4⟩ : ∃ w4, w4 = ((w.setCell ⟨g, 17, none⟩ (.slice (some ⟨gA, off, none⟩) 0 0)).setCell ⟨g, 19, none⟩ (.int .u32 (nd d))) := ⟨_, rfl⟩
    rw [← hw4] at ht q1 q2 q4
    have hs4 : w4.heap.size = w.heap.size := by rw [hw4]; simp [World.setCell]
    have hbR : Blk w5 w.heap.size 59 (Fr.cl ⟨false, 0, false, 0, 0, 0, 0, ⟨#[]⟩⟩).toArray := by
      have := ((Blk.new w4 59 (Fr.cl ⟨false, 0, false, 0, 0, 0, 0, ⟨#[]⟩⟩).toArray).alloc (.cells (Fr.cl ⟨fin, op, masked, k0, k1, k2, k3, data⟩).toArray 59)).touch ht (fun h => h)
      rw [hs4] at this
      exact this
    have hbF : Blk w5 (w.heap.size + 1) 59 (Fr.cl ⟨fin, op, masked, k0, k1, k2, k3, data⟩).toArray := by
      have := (Blk.new (w4.alloc (.cells (Fr.cl ⟨false, 0, false, 0, 0, 0, 0, ⟨#[]⟩⟩).toArray 59)) 59 (Fr.cl ⟨fin, op, masked, k0, k1, k2, k3, data⟩).toArray).touch ht (fun h => h)
      rw [show (w4.alloc (.cells (Fr.cl ⟨false, 0, false, 0, 0, 0, 0, ⟨#[]⟩⟩).toArray 59)).heap.size = w.heap.size + 1 from by simp [hs4]] at this
      exact this
    have r0 := hbR.cell 0
    have r1 := hbR.cell 1
    have r2 := hbR.cell 2
    have r3 := hbR.cell 3
    have r4 := hbR.cell 4
    have r5 := hbR.cell 5
    have r6 := hbR.cell 6
    have r7 := hbR.cell 7
    have s0 := hbF.cell 0
    have s1 := hbF.cell 1
    have s2 := hbF.cell 2
    have s3 := hbF.cell 3
    have s4 := hbF.cell 4
    have s5 := hbF.cell 5
    have s6 := hbF.cell 6
    have s7 := hbF.cell 7
    have u0 := hbR.frozen 0
    have u1 := hbR.frozen 1
    have u2 := hbR.frozen 2
    have u3 := hbR.frozen 3
    have u4 := hbR.frozen 4
    have u5 := hbR.frozen 5
    have u6 := hbR.frozen 6
    have u7 := hbR.frozen 7
    have v0 := hbF.frozen 0
    have v1 := hbF.frozen 1
    have v2 := hbF.frozen 2
    have v3 := hbF.frozen 3
    have v4 := hbF.frozen 4
    have v5 := hbF.frozen 5
    have v6 := hbF.frozen 6
    have v7 := hbF.frozen 7
    have ltR := hbR.lt
    have ltF := hbF.lt
    simp [Fr.cl] at r0 r1 r2 r3 r4 r5 r6 r7 s0 s1 s2 s3 s4 s5 s6 s7
    have HBR := Lib.hid hbR
    have HBF := Lib.hid hbF
    clear hbR hbF
    have ht5 : Touch NoS w4 w5 := (((Touch.refl NoS w4).alloc _).alloc _).trans ht
    have hle : w4.heap.size ≤ w.heap.size := by omega
    have hle2 : w4.heap.size ≤ w.heap.size + 1 := by omega
    have HT5 := Lib.hid ht5
    have HLE := Lib.hid hle
    have HLE2 := Lib.hid hle2
    clear ht ht5 hle hle2 hs4 hw4
    have hne : ¬ (w.heap.size + 1 = w.heap.size) := by omega
    have hne2 : ¬ (w.heap.size = w.heap.size + 1) := by omega
    go_wp2_with fail
    refine bodyPost_ret (v := .tuple #[.agg #[.bool fin, .int .i64 op, .bool true, .int .u8 (nd d / 16777216), .int .u8 (nd d / 65536 % 256), .int .u8 (nd d / 256 % 256), .int .u8 (nd d % 256), .string data], .bool true]) (by simp [results, Try.results55, go_sem, World.cell?_setCell_same', World.cell?_setCell_other, r0, r1, r2, r3, r4, r5, r6, r7, hne, hne2]) rfl ?_
    refine ⟨_, rfl, q1.touch (S := NoS) ?_ (fun h => h), q2.no ?_, q3, q4.trans (Touch.of_no ?_)⟩
    all_goals repeat (with_reducible first | exact HT5.out | refine Touch.setNew ?_ HLE.out _ | refine Touch.setNew ?_ HLE2.out _)
  · obtain ⟨q1, q2, q3, q4⟩ := HFIN.out (.slice (some ⟨gA, off + 8, none⟩) n (c - 1)) (by simp [hc1])
    clear HFIN
    go_enter Try.func55, Try.ntmps55
    go_wp2_with fail
    refine (m_key (nd d) (nd_in d).1 (nd_in d).2 _).mono ?_
    rintro e w5 ⟨rfl, ht⟩
    obtain ⟨w4, hw4⟩ : ∃ w4, w4 = ((w.setCell ⟨g, 17, none⟩ (.slice (some ⟨gA, off + 8, none⟩) n (c - 1))).setCell ⟨g, 19, none⟩ (.int .u32 (nd d))) := ⟨_, rfl⟩
    rw [← hw4] at ht q1 q2 q4
    have hs4 : w4.heap.size = w.heap.size := by rw [hw4]; simp [World.setCell]
    have hbR : Blk w5 w.heap.size 59 (Fr.cl ⟨false, 0, false, 0, 0, 0, 0, ⟨#[]⟩⟩).toArray := by
      have := ((Blk.new w4 59 (Fr.cl ⟨false, 0, false, 0, 0, 0, 0, ⟨#[]⟩⟩).toArray).alloc (.cells (Fr.cl ⟨fin, op, masked, k0, k1, k2, k3, data⟩).toArray 59)).touch ht (fun h => h)
      rw [hs4] at this
      exact this
    have hbF : Blk w5 (w.heap.size + 1) 59 (Fr.cl ⟨fin, op, masked, k0, k1, k2, k3, data⟩).toArray := by
      have := (Blk.new (w4.alloc (.cells (Fr.cl ⟨false, 0, false, 0, 0, 0, 0, ⟨#[]⟩⟩).toArray 59)) 59 (Fr.cl ⟨fin, op, masked, k0, k1, k2, k3, data⟩).toArray).touch ht (fun h => h)
      rw [show (w4.alloc (.cells (Fr.cl ⟨false, 0, false, 0, 0, 0, 0, ⟨#[]⟩⟩).toArray 59)).heap.size = w.heap.size + 1 from by simp [hs4]] at this
      exact this
    have r0 := hbR.cell 0
    have r1 := hbR.cell 1
    have r2 := hbR.cell 2
    have r3 := hbR.cell 3
    have r4 := hbR.cell 4
    have r5 := hbR.cell 5
    have r6 := hbR.cell 6
    have r7 := hbR.cell 7
    have s0 := hbF.cell 0
    have s1 := hbF.cell 1
    have s2 := hbF.cell 2
    have s3 := hbF.cell 3
    have s4 := hbF.cell 4
    have s5 := hbF.cell 5
    have s6 := hbF.cell 6
    have s7 := hbF.cell 7
    have u0 := hbR.frozen 0
    have u1 := hbR.frozen 1
    have u2 := hbR.frozen 2
    have u3 := hbR.frozen 3
    have u4 := hbR.frozen 4
    have u5 := hbR.frozen 5
    have u6 := hbR.frozen 6
    have u7 := hbR.frozen 7
    have v0 := hbF.frozen 0
    have v1 := hbF.frozen 1
    have v2 := hbF.frozen 2
    have v3 := hbF.frozen 3
    have v4 := hbF.frozen 4
    have v5 := hbF.frozen 5
    have v6 := hbF.frozen 6
    have v7 := hbF.frozen 7
    have ltR := hbR.lt
    have ltF := hbF.lt
    simp [Fr.cl] at r0 r1 r2 r3 r4 r5 r6 r7 s0 s1 s2 s3 s4 s5 s6 s7
    have HBR := Lib.hid hbR
    have HBF := Lib.hid hbF
    clear hbR hbF
    have ht5 : Touch NoS w4 w5 := (((Touch.refl NoS w4).alloc _).alloc _).trans ht
    have hle : w4.heap.size ≤ w.heap.size := by omega
    have hle2 : w4.heap.size ≤ w.heap.size + 1 := by omega
    have HT5 := Lib.hid ht5
    have HLE := Lib.hid hle
    have HLE2 := Lib.hid hle2
    clear ht ht5 hle hle2 hs4 hw4
    have hne : ¬ (w.heap.size + 1 = w.heap.size) := by omega
    have hne2 : ¬ (w.heap.size = w.heap.size + 1) := by omega
    go_wp2_with fail
    refine bodyPost_ret (v := .tuple #[.agg #[.bool fin, .int .i64 op, .bool true, .int .u8 (nd d / 16777216), .int .u8 (nd d / 65536 % 256), .int .u8 (nd d / 256 % 256), .int .u8 (nd d % 256), .string data], .bool true]) (by simp [results, Try.results55, go_sem, World.cell?_setCell_same', World.cell?_setCell_other, r0, r1, r2, r3, r4, r5, r6, r7, hne, hne2]) rfl ?_
    refine ⟨_, rfl, q1.touch (S := NoS) ?_ (fun h => h), q2.no ?_, q3, q4.trans (Touch.of_no ?_)⟩
    all_goals repeat (with_reducible first | exact HT5.out | refine Touch.setNew ?_ HLE.out _ | refine Touch.setNew ?_ HLE2.out _)
end Go.Proofs.Ytpadlcllcmodaaa
