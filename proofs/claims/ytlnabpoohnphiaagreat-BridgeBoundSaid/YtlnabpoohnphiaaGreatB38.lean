/- law17: the laws' configuration. | bridge: New. | law17: few, play; what starts each law. -/
import Derived.Test.YtlnabpoohnphiaaGreatB37
import Derived.Test.YtlnabpoohnphiaaGreatB30
import Derived.Test.YtlnabpoohnphiaaGreatB36
/- law17: the laws' configuration. -/
namespace Go.Proofs.YtlnabpoohnphiaaGreat
open Go.RowKit
set_option linter.unusedSimpArgs false
set_option linter.unusedVariables false

theorem cfg_loadW {w : World} {g b M F C Q O : Nat} (h : Blk w g 29 (cfgW b M F C Q O)) : (loadVar 29 ⟨g, 0, none⟩).run Tryz.prog w = .ok (.agg (cfgW b M F C Q O)) w :=
  run_loadVar_row w g 29 29 (cfgW b M F C Q O) (0, 0) _ h Tryz.underlying29 rfl (by rw [show (cfgW b M F C Q O).size = 12 from rfl]; exact cfg_info)
set_option maxHeartbeats 3200000 in
set_option maxRecDepth 100000 in
theorem l_cfg17 (m s o n y : Nat) (hm : m ≤ 255) (hs : s ≤ 255) (ho : o ≤ 255) (hn : n ≤ 255) (hy : y ≤ 255) (w : World) : Calls Tryz.prog 12 #[.agg #[.int .u8 m, .int .u8 s, .int .u8 o, .int .u8 n, .int .u8 y]] w fun e w' =>
    ∃ b, e = .returned (.agg (cfgW b (1 + m) (1 + s) (1 + n % 8) (1 + m + y) (1 + o))) ∧ Blk w' b 101 #[.string ⟨#[47]⟩, .string ⟨#[]⟩, .string ⟨#[120]⟩] ∧ Touch NoS w w' := by
  go_enter Tryz.func12, Tryz.ntmps12
  go_upto_region 1 with (fail)
  go_wp2_with fail
  have hb0 : Blk ((w.alloc (.cells #[.int .u8 m, .int .u8 s, .int .u8 o, .int .u8 n, .int .u8 y] 22)).alloc (.cells #[.slice none 0 0, .slice none 0 0, .int .i64 0, .int .i64 0, .int .i64 0, .int .i64 0, .int .i64 0, .int .i64 0, .int .i64 0, .int .i64 0, .int .i64 0, .int .i64 0] 29)) w.heap.size 22 #[.int .u8 m, .int .u8 s, .int .u8 o, .int .u8 n, .int .u8 y] := (Blk.new w _ _).alloc _
  have hr0 : Blk ((w.alloc (.cells #[.int .u8 m, .int .u8 s, .int .u8 o, .int .u8 n, .int .u8 y] 22)).alloc (.cells #[.slice none 0 0, .slice none 0 0, .int .i64 0, .int .i64 0, .int .i64 0, .int .i64 0, .int .i64 0, .int .i64 0, .int .i64 0, .int .i64 0, .int .i64 0, .int .i64 0] 29)) (w.heap.size + 1) 29 #[.slice none 0 0, .slice none 0 0, .int .i64 0, .int .i64 0, .int .i64 0, .int .i64 0, .int .i64 0, .int .i64 0, .int .i64 0, .int .i64 0, .int .i64 0, .int .i64 0] := by
    have := Blk.new (w.alloc (.cells #[.int .u8 m, .int .u8 s, .int .u8 o, .int .u8 n, .int .u8 y] 22)) 29 #[.slice none 0 0, .slice none 0 0, .int .i64 0, .int .i64 0, .int .i64 0, .int .i64 0, .int .i64 0, .int .i64 0, .int .i64 0, .int .i64 0, .int .i64 0, .int .i64 0]
    simpa using this
  have HT0 : Hid (Touch NoS w ((w.alloc (.cells #[.int .u8 m, .int .u8 s, .int .u8 o, .int .u8 n, .int .u8 y] 22)).alloc (.cells #[.slice none 0 0, .slice none 0 0, .int .i64 0, .int .i64 0, .int .i64 0, .int .i64 0, .int .i64 0, .int .i64 0, .int .i64 0, .int .i64 0, .int .i64 0, .int .i64 0] 29))) := ((Touch.refl _ _).alloc _).alloc _
  refine (l_cfg m s o hm hs ho _).mono ?_
  rintro e w1 ⟨b, rfl, hb, hbr, ht⟩
  have hb1 := hb0.touch ht (fun h => h)
  have hr1 := hr0.touch ht (fun h => h)
  have HT1 := Lib.hid (HT0.out.trans ht)
  obtain ⟨g1, hg1⟩ : ∃ g, g = w.heap.size + 1 := ⟨_, rfl⟩
  obtain ⟨g0, hg0⟩ : ∃ g, g = w.heap.size := ⟨_, rfl⟩
  have hle : w.heap.size ≤ g1 := by omega
  rw [← hg1] at hr1
  rw [← hg0] at hb1
  rw [← hg1, ← hg0]
  have HB1 := Lib.hid hb1
  have HR1 := Lib.hid hr1
  have HBR := Lib.hid hbr
  clear hb0 hr0 hb hbr ht hb1 hr1 hg0 hg1 HT0
  unfold cfgV
  obtain ⟨M, hM⟩ : ∃ M, M = 1 + m := ⟨_, rfl⟩
  obtain ⟨F, hF⟩ : ∃ F, F = 1 + s := ⟨_, rfl⟩
  obtain ⟨O, hO⟩ : ∃ O, O = 1 + o := ⟨_, rfl⟩
  rw [← hM, ← hF, ← hO]
  have hMb : M ≤ 256 := by omega
  have HMFO := Lib.hid (And.intro hM (And.intro hF hO))
  clear hM hF hO hm hs ho
  go_upto_region 2 with (fail)
  obtain ⟨w2, hw2⟩ : ∃ w2, w2 = w1.alloc (.cells (cfgV b M F O) 29) := ⟨_, rfl⟩
  obtain ⟨gc, hgc⟩ : ∃ g, g = w1.heap.size := ⟨_, rfl⟩
  have hbc : Blk w2 gc 29 (cfgV b M F O) := by rw [hw2, hgc]; exact Blk.new _ _ _
  have HT2 : Hid (Touch NoS w w2) := by rw [hw2]; exact HT1.out.alloc _
  have hb2 : Blk w2 g0 22 #[.int .u8 m, .int .u8 s, .int .u8 o, .int .u8 n, .int .u8 y] := by rw [hw2]; exact HB1.out.alloc _
  have hr2 : Blk w2 g1 29 #[.slice none 0 0, .slice none 0 0, .int .i64 0, .int .i64 0, .int .i64 0, .int .i64 0, .int .i64 0, .int .i64 0, .int .i64 0, .int .i64 0, .int .i64 0, .int .i64 0] := by rw [hw2]; exact HR1.out.alloc _
  have HBR2 : Hid (Blk w2 b 101 #[.string ⟨#[47]⟩, .string ⟨#[]⟩, .string ⟨#[120]⟩]) := by rw [hw2]; exact HBR.out.alloc _
  have hgl : w.heap.size ≤ gc := by rw [hgc]; exact HT1.out.size
  have hgn : gc ≠ g1 := by
    rw [hgc]
    have := HR1.out.lt
    omega
  unfold cfgV at hw2
  rw [← hw2, ← hgc]
  clear hw2 hgc HT1 HB1 HR1 HBR
  have z3 := hb2.cell 3
  have z4 := hb2.cell 4
  have zl := hb2.lt
  have c3 := hbc.cell 3
  have c5 := hbc.cell 5
  have c6 := hbc.cell 6
  have cl := hbc.lt
  have f5 := hbc.frozen 5
  have f6 := hbc.frozen 6
  simp [cfgV] at z3 z4 c3 c5 c6
  have HE : Hid (IntKind.i64.wrap (n : Int) = n ∧ IntKind.i64.wrap (1 + (n : Int).tmod 8) = ((1 + n % 8 : Nat) : Int) ∧ IntKind.i64.wrap (y : Int) = y ∧ IntKind.i64.wrap ((M : Int) + y) = ((M + y : Nat) : Int)) := by
    refine Lib.hid ?_
    have hnt : (1 : Int) + Int.tmod (n : Int) 8 = ((1 + n % 8 : Nat) : Int) := by
      rw [Int.tmod_eq_emod_of_nonneg (by omega)]
      omega
    have hmy : (M : Int) + y = ((M + y : Nat) : Int) := by omega
    rw [hnt, hmy]
    exact ⟨IntWalk.i64_in _ (by omega), IntWalk.i64_in _ (by omega), IntWalk.i64_in _ (by omega), IntWalk.i64_in _ (by omega)⟩
  have HBC := Lib.hid hbc
  have HR2 := Lib.hid hr2
  clear hbc hb2 hr2
  go_region
  have hbc3 : Blk ((w2.setCell ⟨gc, 5, none⟩ (.int .i64 (1 + n % 8))).setCell ⟨gc, 6, none⟩ (.int .i64 (M + y))).drew gc 29 (cfgW b M F (1 + n % 8) (M + y) O) := by
    have := ((HBC.out.set_ 5 (.int .i64 (1 + n % 8))).set_ 6 (.int .i64 (M + y))).drew
    unfold cfgV at this
    unfold cfgW
    simpa using this
  have ht3 : Touch (At gc) w2 ((w2.setCell ⟨gc, 5, none⟩ (.int .i64 (1 + n % 8))).setCell ⟨gc, 6, none⟩ (.int .i64 (M + y))).drew := (((Touch.refl (At gc) w2).setAt 5 _).setAt 6 _).drew
  have hr3 := HR2.out.touch ht3 (fun h => hgn h.symm)
  have HBR3 := Lib.hid (HBR2.out.touch ht3 (fun h => Blk.ne_ HBR2.out HBC.out (by decide) h))
  have HT3 := Lib.hid (HT2.out.then_new ht3 (fun i hi => .inl (by rw [hi]; exact hgl)))
  obtain ⟨w3, hw3⟩ : ∃ x, x = ((w2.setCell ⟨gc, 5, none⟩ (.int .i64 (1 + n % 8))).setCell ⟨gc, 6, none⟩ (.int .i64 (M + y))).drew := ⟨_, rfl⟩
  rw [← hw3] at hbc3 hr3 HBR3 HT3 ⊢
  clear ht3 hw3 HBC HR2 HE z3 z4 c3 c5 c6 f5 f6 cl zl HBR2 HT2 
  have hld := cfg_loadW hbc3
  have c0 := hbc3.cell 0
  have c1 := hbc3.cell 1
  have c2 := hbc3.cell 2
  have c3 := hbc3.cell 3
  have c4 := hbc3.cell 4
  have c5 := hbc3.cell 5
  have c6 := hbc3.cell 6
  have c7 := hbc3.cell 7
  have c8 := hbc3.cell 8
  have c9 := hbc3.cell 9
  have c10 := hbc3.cell 10
  have c11 := hbc3.cell 11
  have cl := hbc3.lt
  simp [cfgW] at c0 c1 c2 c3 c4 c5 c6 c7 c8 c9 c10 c11
  have r0 := hr3.cell 0
  have r1 := hr3.cell 1
  have r2 := hr3.cell 2
  have r3 := hr3.cell 3
  have r4 := hr3.cell 4
  have r5 := hr3.cell 5
  have r6 := hr3.cell 6
  have r7 := hr3.cell 7
  have r8 := hr3.cell 8
  have r9 := hr3.cell 9
  have r10 := hr3.cell 10
  have r11 := hr3.cell 11
  have rl := hr3.lt
  simp at r0 r1 r2 r3 r4 r5 r6 r7 r8 r9 r10 r11
  have f0 := hr3.frozen 0
  have f1 := hr3.frozen 1
  have f2 := hr3.frozen 2
  have f3 := hr3.frozen 3
  have f4 := hr3.frozen 4
  have f5 := hr3.frozen 5
  have f6 := hr3.frozen 6
  have f7 := hr3.frozen 7
  have f8 := hr3.frozen 8
  have f9 := hr3.frozen 9
  have f10 := hr3.frozen 10
  have f11 := hr3.frozen 11
  go_wp2_with fail
  have hb4 : Blk ((((((((((((w3.setCell ⟨g1, 0, none⟩ (.slice (some ⟨b, 0, none⟩) 1 1)).setCell ⟨g1, 1, none⟩ (.slice none 0 0)).setCell ⟨g1, 2, none⟩ (.int .i64 4)).setCell ⟨g1, 3, none⟩ (.int .i64 M)).setCell ⟨g1, 4, none⟩ (.int .i64 F)).setCell ⟨g1, 5, none⟩ (.int .i64 (1 + n % 8))).setCell ⟨g1, 6, none⟩ (.int .i64 (M + y))).setCell ⟨g1, 7, none⟩ (.int .i64 O)).setCell ⟨g1, 8, none⟩ (.int .i64 5)).setCell ⟨g1, 9, none⟩ (.int .i64 9)).setCell ⟨g1, 10, none⟩ (.int .i64 3)).setCell ⟨g1, 11, none⟩ (.int .i64 4)) g1 29 (cfgW b M F (1 + n % 8) (M + y) O) := by
    have := ((((((((((((hr3.set_ 0 (.slice (some ⟨b, 0, none⟩) 1 1)).set_ 1 (.slice none 0 0)).set_ 2 (.int .i64 4)).set_ 3 (.int .i64 M)).set_ 4 (.int .i64 F)).set_ 5 (.int .i64 (1 + n % 8))).set_ 6 (.int .i64 (M + y))).set_ 7 (.int .i64 O)).set_ 8 (.int .i64 5)).set_ 9 (.int .i64 9)).set_ 10 (.int .i64 3)).set_ 11 (.int .i64 4))
    unfold cfgW
    simpa using this
  have ht4 : Touch (At g1) w3 ((((((((((((w3.setCell ⟨g1, 0, none⟩ (.slice (some ⟨b, 0, none⟩) 1 1)).setCell ⟨g1, 1, none⟩ (.slice none 0 0)).setCell ⟨g1, 2, none⟩ (.int .i64 4)).setCell ⟨g1, 3, none⟩ (.int .i64 M)).setCell ⟨g1, 4, none⟩ (.int .i64 F)).setCell ⟨g1, 5, none⟩ (.int .i64 (1 + n % 8))).setCell ⟨g1, 6, none⟩ (.int .i64 (M + y))).setCell ⟨g1, 7, none⟩ (.int .i64 O)).setCell ⟨g1, 8, none⟩ (.int .i64 5)).setCell ⟨g1, 9, none⟩ (.int .i64 9)).setCell ⟨g1, 10, none⟩ (.int .i64 3)).setCell ⟨g1, 11, none⟩ (.int .i64 4)) := (((((((((((((Touch.refl (At g1) w3).setAt 0 _).setAt 1 _).setAt 2 _).setAt 3 _).setAt 4 _).setAt 5 _).setAt 6 _).setAt 7 _).setAt 8 _).setAt 9 _).setAt 10 _).setAt 11 _)
  have hT4 := HT3.out.then_new ht4 (fun i hi => .inl (by rw [hi]; exact hle))
  have hBR4 := HBR3.out.touch ht4 (fun h => Blk.ne_ HBR3.out hr3 (by decide) h)
  obtain ⟨w4, hw4⟩ : ∃ x, x = ((((((((((((w3.setCell ⟨g1, 0, none⟩ (.slice (some ⟨b, 0, none⟩) 1 1)).setCell ⟨g1, 1, none⟩ (.slice none 0 0)).setCell ⟨g1, 2, none⟩ (.int .i64 4)).setCell ⟨g1, 3, none⟩ (.int .i64 M)).setCell ⟨g1, 4, none⟩ (.int .i64 F)).setCell ⟨g1, 5, none⟩ (.int .i64 (1 + n % 8))).setCell ⟨g1, 6, none⟩ (.int .i64 (M + y))).setCell ⟨g1, 7, none⟩ (.int .i64 O)).setCell ⟨g1, 8, none⟩ (.int .i64 5)).setCell ⟨g1, 9, none⟩ (.int .i64 9)).setCell ⟨g1, 10, none⟩ (.int .i64 3)).setCell ⟨g1, 11, none⟩ (.int .i64 4)) := ⟨_, rfl⟩
  rw [← hw4] at hb4 hT4 hBR4 ⊢
  clear ht4 hw4 c0 c1 c2 c3 c4 c5 c6 c7 c8 c9 c10 c11 r0 r1 r2 r3 r4 r5 r6 r7 r8 r9 r10 r11 f0 f1 f2 f3 f4 f5 f6 f7 f8 f9 f10 f11 hld
  have q0 := hb4.cell 0
  have q1 := hb4.cell 1
  have q2 := hb4.cell 2
  have q3 := hb4.cell 3
  have q4 := hb4.cell 4
  have q5 := hb4.cell 5
  have q6 := hb4.cell 6
  have q7 := hb4.cell 7
  have q8 := hb4.cell 8
  have q9 := hb4.cell 9
  have q10 := hb4.cell 10
  have q11 := hb4.cell 11
  simp [cfgW] at q0 q1 q2 q3 q4 q5 q6 q7 q8 q9 q10 q11
  refine bodyPost_ret (v := .agg (cfgW b M F (1 + n % 8) (M + y) O)) (by simp [results, Tryz.results12, go_sem, q0, q1, q2, q3, q4, q5, q6, q7, q8, q9, q10, q11, cfgW]) rfl ?_
  obtain ⟨rfl, rfl, rfl⟩ := HMFO.out
  exact ⟨b, rfl, hBR4, hT4⟩
end Go.Proofs.YtlnabpoohnphiaaGreat
/- bridge: New. -/
namespace Go.Proofs.YtlnabpoohnphiaaGreat
open Go.RowKit
set_option linter.unusedSimpArgs false
set_option linter.unusedVariables false

/-- A session's block while it is made. -/
def bnC (b M F C Q O : Nat) (l0 q0 : Value) (e0 : Int) (l1 q1 : Value) (e1 : Int) : Array Value := #[.slice (some ⟨b, 0, none⟩) 1 1, .slice none 0 0, .int .i64 4, .int .i64 M, .int .i64 F, .int .i64 C, .int .i64 Q, .int .i64 O, .int .i64 5, .int .i64 9, .int .i64 3, .int .i64 4,
  l0, q0, .bool false, .int .i64 e0, .int .i64 0, .bool false, .int .i64 0, l1, q1, .bool false, .int .i64 e1, .int .i64 0, .bool false, .int .i64 0]
theorem lg_newW (b M F C Q O : Nat) (h1 : 1 ≤ M) (h2 : M ≤ Q) (hq : Q ≤ 4194304) (hm : M ≤ 65536) (hc1 : 1 ≤ C) (hc2 : C ≤ 1024) (h3 : 1 ≤ F) (h4 : F ≤ 65536) (h5 : 1 ≤ O) (h6 : O ≤ 65536) (masked : Bool) (draw : Int) (w : World) (hb : Blk w b 101 #[.string ⟨#[47]⟩, .string ⟨#[]⟩, .string ⟨#[120]⟩]) :
    Calls Tryz.prog 32 #[.agg #[.slice (some ⟨b, 0, none⟩) 1 1, .slice none 0 0, .int .i64 4, .int .i64 M, .int .i64 F, .int .i64 C, .int .i64 Q, .int .i64 O, .int .i64 5, .int .i64 9, .int .i64 3, .int .i64 4], .bool masked, .int .u32 draw] w fun e w' =>
      ∃ g k, e = .returned (.tuple #[.pointer (some ⟨g, 0, none⟩), .int .i64 0]) ∧ k.message = M ∧ k.frame = F ∧ k.out = O ∧ k.masks = !masked ∧ LgAt w w' g k (Lg.new M draw) := by
  refine (l_new (some ⟨b, 0, none⟩) none 1 1 0 0 4 M F C Q O 5 9 3 4 masked draw w h1 hm h5 h6 (fun W t => r_checkW b M F C Q O h1 h2 hq hm hc1 hc2 h3 h4 h5 h6 W (hb.touch t (fun h => h)))).mono ?_
  rintro e w' ⟨g, k, rfl, q1, q2, q3, q4, q5, q6, q7⟩
  exact ⟨g, k, rfl, q1, q2, q3, q4, LV.nil, q5, q6, q7⟩
/-- What a side is made with. -/
def LkOf (k : Lk) (M F O : Nat) (m : Bool) : Prop := k.message = M ∧ k.frame = F ∧ k.out = O ∧ k.masks = m
/-- How far the making is. -/
structure Mk (w : World) (g g0 b M F C Q O : Nat) (draw : Int) (wr : World) : Prop where
  old : Touch NoS w wr
  cfg : Blk wr g0 29 #[.slice (some ⟨b, 0, none⟩) 1 1, .slice none 0 0, .int .i64 4, .int .i64 M, .int .i64 F, .int .i64 C, .int .i64 Q, .int .i64 O, .int .i64 5, .int .i64 9, .int .i64 3, .int .i64 4]
  route : Blk wr b 101 #[.string ⟨#[47]⟩, .string ⟨#[]⟩, .string ⟨#[120]⟩]
def Mk0 (w : World) (g b M F C Q O : Nat) (draw : Int) (wr : World) : Prop := Blk wr g 80 (bnC b M F C Q O (.pointer none) (.pointer none) 0 (.pointer none) (.pointer none) 0)
def Mk1 (w : World) (g b M F C Q O : Nat) (draw : Int) (wr : World) : Prop := ∃ gl0 k0 gq0, Blk wr g 80 (bnC b M F C Q O (.pointer (some ⟨gl0, 0, none⟩)) (.pointer (some ⟨gq0, 0, none⟩)) (-1) (.pointer none) (.pointer none) 0) ∧
  LgAt w wr gl0 k0 (Lg.new M draw) ∧ LkOf k0 M F O false ∧ IsQ wr gq0 ⟨C, Q, []⟩ ∧ w.heap.size ≤ gq0
def Mk2 (w : World) (g b M F C Q O : Nat) (draw : Int) (wr : World) : Prop := ∃ gl0 k0 gq0 gl1 k1 gq1, Blk wr g 80 (bnC b M F C Q O (.pointer (some ⟨gl0, 0, none⟩)) (.pointer (some ⟨gq0, 0, none⟩)) (-1) (.pointer (some ⟨gl1, 0, none⟩)) (.pointer (some ⟨gq1, 0, none⟩)) (-1)) ∧
  LgTwo w wr gl0 k0 (Lg.new M draw) gl1 k1 (Lg.new M draw) ∧ LkOf k0 M F O false ∧ LkOf k1 M F O true ∧ IsQ wr gq0 ⟨C, Q, []⟩ ∧ IsQ wr gq1 ⟨C, Q, []⟩ ∧ w.heap.size ≤ gq0 ∧ w.heap.size ≤ gq1 ∧ gq0 ≠ gq1
set_option maxHeartbeats 6400000 in
set_option maxRecDepth 100000 in
theorem b_new (b M F C Q O : Nat) (h1 : 1 ≤ M) (h2 : M ≤ Q) (hq : Q ≤ 4194304) (hm : M ≤ 65536) (hc1 : 1 ≤ C) (hc2 : C ≤ 1024) (h3 : 1 ≤ F) (h4 : F ≤ 65536) (h5 : 1 ≤ O) (h6 : O ≤ 65536) (draw : Int) (w : World) (hb : Blk w b 101 #[.string ⟨#[47]⟩, .string ⟨#[]⟩, .string ⟨#[120]⟩]) :
    Calls Tryz.prog 13 #[.agg (cfgW b M F C Q O), .int .u32 draw] w fun e w' =>
      ∃ (g : Nat) (gl gq : Bool → Nat) (X : Bx) (K : Bk), e = .returned (.tuple #[.pointer (some ⟨g, 0, none⟩), .int .i64 0]) ∧ K.message = M ∧ K.count = (C : Int) ∧ K.bytes = (Q : Int) ∧ K.idle = 9 ∧ K.pong = 3 ∧ K.close = 4 ∧ (∀ i, LkOf (K.k i) M F O i) ∧ IsB (fun b => b < w.heap.size) w' g X K gl gq (Br.new M draw) ∧ Touch NoS w w' := by
  have HNEW := Lib.hid (fun mk W hW => lg_newW b M F C Q O h1 h2 hq hm hc1 hc2 h3 h4 h5 h6 mk draw W hW)
  have HQN := Lib.hid (fun W => q_new (N := NoS) C Q W (by omega) (by omega) (by omega) (by omega))
  have HB := Lib.hid hb
  clear hb h1 h2 hq hm hc1 hc2 h3 h4 h5 h6
  unfold cfgW
  go_enter Tryz.func13, Tryz.ntmps13
  go_wp2_with fail
  have hw0 : Mk w (w.heap.size + 1) w.heap.size b M F C Q O draw ((w.alloc (.cells #[.slice (some ⟨b, 0, none⟩) 1 1, .slice none 0 0, .int .i64 4, .int .i64 M, .int .i64 F, .int .i64 C, .int .i64 Q, .int .i64 O, .int .i64 5, .int .i64 9, .int .i64 3, .int .i64 4] 29)).alloc (.cells (bnC b M F C Q O (.pointer none) (.pointer none) 0 (.pointer none) (.pointer none) 0) 80)) :=
    ⟨((Touch.refl _ _).alloc _).alloc _, (Blk.new w _ _).alloc _, (HB.out.alloc _).alloc _⟩
  have hz0 : Mk0 w (w.heap.size + 1) b M F C Q O draw ((w.alloc (.cells #[.slice (some ⟨b, 0, none⟩) 1 1, .slice none 0 0, .int .i64 4, .int .i64 M, .int .i64 F, .int .i64 C, .int .i64 Q, .int .i64 O, .int .i64 5, .int .i64 9, .int .i64 3, .int .i64 4] 29)).alloc (.cells (bnC b M F C Q O (.pointer none) (.pointer none) 0 (.pointer none) (.pointer none) 0) 80)) := by
    have := Blk.new (w.alloc (.cells #[.slice (some ⟨b, 0, none⟩) 1 1, .slice none 0 0, .int .i64 4, .int .i64 M, .int .i64 F, .int .i64 C, .int .i64 Q, .int .i64 O, .int .i64 5, .int .i64 9, .int .i64 3, .int .i64 4] 29)) 80 (bnC b M F C Q O (.pointer none) (.pointer none) 0 (.pointer none) (.pointer none) 0)
    unfold Mk0
    simpa using this
  obtain ⟨w1, hw1⟩ : ∃ x, x = ((w.alloc (.cells #[.slice (some ⟨b, 0, none⟩) 1 1, .slice none 0 0, .int .i64 4, .int .i64 M, .int .i64 F, .int .i64 C, .int .i64 Q, .int .i64 O, .int .i64 5, .int .i64 9, .int .i64 3, .int .i64 4] 29)).alloc (.cells (bnC b M F C Q O (.pointer none) (.pointer none) 0 (.pointer none) (.pointer none) 0) 80)) := ⟨_, rfl⟩
  rw [← hw1] at hw0 hz0
  unfold bnC at hw1
  rw [← hw1]
  obtain ⟨g, hg⟩ : ∃ x, x = w.heap.size + 1 := ⟨_, rfl⟩
  obtain ⟨g0, hg0⟩ : ∃ x, x = w.heap.size := ⟨_, rfl⟩
  have hgw : w.heap.size ≤ g := by omega
  rw [← hg] at hw0 hz0
  rw [← hg0] at hw0
  rw [← hg, ← hg0]
  have HW0 := Lib.hid hw0
  have HZ0 := Lib.hid hz0
  clear hw1 hg hg0 hw0 hz0 HB
  go_loopw [15] (fun iv wr => ∃ k : Nat, k ≤ 2 ∧ iv = .int .i64 k ∧ Mk w g g0 b M F C Q O draw wr ∧ (k = 0 → Mk0 w g b M F C Q O draw wr) ∧ (k = 1 → Mk1 w g b M F C Q O draw wr) ∧ (k = 2 → Mk2 w g b M F C Q O draw wr)) (fun iv _ => 2 - (intOf iv).toNat)
  case atStart => exact ⟨0, by omega, rfl, HW0.out, fun _ => HZ0.out, fun h => absurd h (by omega), fun h => absurd h (by omega)⟩
  case round =>
    obtain ⟨k, hk, rfl, hmk, hm0, hm1, hm2⟩ := hrel
    have HMK := Lib.hid hmk
    have hkc : k = 0 ∨ k = 1 ∨ k = 2 := by omega
    have q0 := hmk.cfg.cell 0
    have q1 := hmk.cfg.cell 1
    have q2 := hmk.cfg.cell 2
    have q3 := hmk.cfg.cell 3
    have q4 := hmk.cfg.cell 4
    have q5 := hmk.cfg.cell 5
    have q6 := hmk.cfg.cell 6
    have q7 := hmk.cfg.cell 7
    have q8 := hmk.cfg.cell 8
    have q9 := hmk.cfg.cell 9
    have q10 := hmk.cfg.cell 10
    have q11 := hmk.cfg.cell 11
    have ql := hmk.cfg.lt
    simp at q0 q1 q2 q3 q4 q5 q6 q7 q8 q9 q10 q11
    clear hmk HW0 HZ0
    rcases hkc with rfl | rfl | rfl
    · have HM := Lib.hid (hm0 rfl)
      clear hm0 hm1 hm2 hk
      go_wp2_with fail
      refine (HNEW.out true _ HMK.out.route).mono ?_
      rintro e w2 ⟨gl, kl, rfl, k1, k2, k3, k4, hL⟩
      have ht := hL.old
      have HMK2 : Hid (Mk w g g0 b M F C Q O draw w2) := ⟨HMK.out.old.trans ht, HMK.out.cfg.touch ht (fun h => h), HMK.out.route.touch ht (fun h => h)⟩
      have HM2 : Hid (Mk0 w g b M F C Q O draw w2) := Blk.touch HM.out ht (fun h => h)
      have HL2 : Hid (LgAt w w2 gl kl (Lg.new M draw)) := by
        obtain ⟨V, i1, i2, i3⟩ := hL
        exact ⟨V, i1, fun b hb => Nat.le_trans HMK.out.old.size (i2 b hb), HMK.out.old.trans i3⟩
      have HK : Hid (LkOf kl M F O false) := ⟨k1, k2, k3, k4⟩
      have hgw2 := HMK2.out.old.size
      have q5 := HMK2.out.cfg.cell 5
      have q6 := HMK2.out.cfg.cell 6
      have ql := HMK2.out.cfg.lt
      simp at q5 q6
      clear hL ht k1 k2 k3 k4 q0 q1 q2 q3 q4 q7 q8 q9 q10 q11 HMK HM
      go_wp2_with fail
      refine (HQN.out _).mono ?_
      rintro e w3 ⟨gq, rfl, hgq, hq3, ht⟩
      have HMK3 : Hid (Mk w g g0 b M F C Q O draw w3) := ⟨HMK2.out.old.trans ht, HMK2.out.cfg.touch ht (fun h => h), HMK2.out.route.touch ht (fun h => h)⟩
      have hb3 : Blk w3 g 80 (bnC b M F C Q O (.pointer none) (.pointer none) 0 (.pointer none) (.pointer none) 0) := Blk.touch HM2.out ht (fun h => h)
      have HL3 := Lib.hid (HL2.out.no ht)
      have HQN3 := Lib.hid hq3
      have z0 := hb3.cell 12
      have z1 := hb3.cell 13
      have z2 := hb3.cell 14
      have z3 := hb3.cell 15
      have z4 := hb3.cell 16
      have z5 := hb3.cell 17
      have z6 := hb3.cell 18
      have f0 := hb3.frozen 12
      have f1 := hb3.frozen 13
      have f2 := hb3.frozen 14
      have f3 := hb3.frozen 15
      have f4 := hb3.frozen 16
      have f5 := hb3.frozen 17
      have f6 := hb3.frozen 18
      have zl := hb3.lt
      simp [bnC] at z0 z1 z2 z3 z4 z5 z6
      have HB3 := Lib.hid hb3
      clear hq3 ht hb3 q5 q6 ql HL2 HM2 HMK2
      go_wp2_with fail
      have hb4 : Blk (((((((w3.setCell ⟨g, 12, none⟩ (.pointer (some ⟨gl, 0, none⟩))).setCell ⟨g, 13, none⟩ (.pointer (some ⟨gq, 0, none⟩))).setCell ⟨g, 14, none⟩ (.bool false)).setCell ⟨g, 15, none⟩ (.int .i64 (-1))).setCell ⟨g, 16, none⟩ (.int .i64 0)).setCell ⟨g, 17, none⟩ (.bool false)).setCell ⟨g, 18, none⟩ (.int .i64 0)) g 80 (bnC b M F C Q O (.pointer (some ⟨gl, 0, none⟩)) (.pointer (some ⟨gq, 0, none⟩)) (-1) (.pointer none) (.pointer none) 0) := by
        have := (((((((HB3.out.set_ 12 (.pointer (some ⟨gl, 0, none⟩))).set_ 13 (.pointer (some ⟨gq, 0, none⟩))).set_ 14 (.bool false)).set_ 15 (.int .i64 (-1))).set_ 16 (.int .i64 0)).set_ 17 (.bool false)).set_ 18 (.int .i64 0))
        unfold bnC at this ⊢
        simpa using this
      have ht4 : Touch (At g) w3 (((((((w3.setCell ⟨g, 12, none⟩ (.pointer (some ⟨gl, 0, none⟩))).setCell ⟨g, 13, none⟩ (.pointer (some ⟨gq, 0, none⟩))).setCell ⟨g, 14, none⟩ (.bool false)).setCell ⟨g, 15, none⟩ (.int .i64 (-1))).setCell ⟨g, 16, none⟩ (.int .i64 0)).setCell ⟨g, 17, none⟩ (.bool false)).setCell ⟨g, 18, none⟩ (.int .i64 0)) := ((((((((Touch.refl (At g) w3).setAt 12 _).setAt 13 _).setAt 14 _).setAt 15 _).setAt 16 _).setAt 17 _).setAt 18 _)
      have HF : Hid (Mk w g g0 b M F C Q O draw (((((((w3.setCell ⟨g, 12, none⟩ (.pointer (some ⟨gl, 0, none⟩))).setCell ⟨g, 13, none⟩ (.pointer (some ⟨gq, 0, none⟩))).setCell ⟨g, 14, none⟩ (.bool false)).setCell ⟨g, 15, none⟩ (.int .i64 (-1))).setCell ⟨g, 16, none⟩ (.int .i64 0)).setCell ⟨g, 17, none⟩ (.bool false)).setCell ⟨g, 18, none⟩ (.int .i64 0))) := ⟨HMK3.out.old.then_new ht4 (fun i hi => .inl (by rw [hi]; exact hgw)), HMK3.out.cfg.touch ht4 (fun h => Blk.ne_ HMK3.out.cfg HB3.out (by decide) h), HMK3.out.route.touch ht4 (fun h => Blk.ne_ HMK3.out.route HB3.out (by decide) h)⟩
      have hq4 := IsQN.types (T := fun t => t = 80) HQN3.out (ByT.at_ ht4 HB3.out rfl) (by decide) (by decide)
      have hl4 : LgAt w (((((((w3.setCell ⟨g, 12, none⟩ (.pointer (some ⟨gl, 0, none⟩))).setCell ⟨g, 13, none⟩ (.pointer (some ⟨gq, 0, none⟩))).setCell ⟨g, 14, none⟩ (.bool false)).setCell ⟨g, 15, none⟩ (.int .i64 (-1))).setCell ⟨g, 16, none⟩ (.int .i64 0)).setCell ⟨g, 17, none⟩ (.bool false)).setCell ⟨g, 18, none⟩ (.int .i64 0)) gl kl (Lg.new M draw) := by
        obtain ⟨V, i1, i2, i3⟩ := HL3.out
        refine ⟨V, i1.touch ht4 (fun b hb hs => ?_), i2, i3.then_new ht4 (fun i hi => .inl (by rw [hi]; exact hgw))⟩
        have he : b = g := hs
        rw [he] at hb
        exact i1.outer HB3.out (by decide) hb
      have HF2 : Hid (Mk1 w g b M F C Q O draw (((((((w3.setCell ⟨g, 12, none⟩ (.pointer (some ⟨gl, 0, none⟩))).setCell ⟨g, 13, none⟩ (.pointer (some ⟨gq, 0, none⟩))).setCell ⟨g, 14, none⟩ (.bool false)).setCell ⟨g, 15, none⟩ (.int .i64 (-1))).setCell ⟨g, 16, none⟩ (.int .i64 0)).setCell ⟨g, 17, none⟩ (.bool false)).setCell ⟨g, 18, none⟩ (.int .i64 0))) := ⟨gl, kl, gq, hb4, hl4, HK.out, hq4, by omega⟩
      clear hb4 ht4 hl4 hq4 z0 f0 z1 f1 z2 f2 z3 f3 z4 f4 z5 f5 z6 f6 zl
      go_roundw
      · exact ⟨1, by omega, by go_num, HF.out, fun h => absurd h (by omega), fun _ => HF2.out, fun h => absurd h (by omega)⟩
      · simp [intOf]
    · have HM := Lib.hid (hm1 rfl)
      clear hm0 hm1 hm2 hk
      go_wp2_with fail
      refine (HNEW.out false _ HMK.out.route).mono ?_
      rintro e w2 ⟨gl, kl, rfl, k1, k2, k3, k4, hL⟩
      have ht := hL.old
      have HMK2 : Hid (Mk w g g0 b M F C Q O draw w2) := ⟨HMK.out.old.trans ht, HMK.out.cfg.touch ht (fun h => h), HMK.out.route.touch ht (fun h => h)⟩
      obtain ⟨gl0, k0, gq0, hbm, hl0, hk0, hq0, hs0⟩ := HM.out
      have hs0' := hq0.lt
      have HM2 : Hid (Blk w2 g 80 (bnC b M F C Q O (.pointer (some ⟨gl0, 0, none⟩)) (.pointer (some ⟨gq0, 0, none⟩)) (-1) (.pointer none) (.pointer none) 0)) := hbm.touch ht (fun h => h)
      have HQ0 : Hid (IsQ w2 gq0 ⟨C, Q, []⟩) := hq0.no ht
      have HL2 : Hid (LgTwo w w2 gl0 k0 (Lg.new M draw) gl kl (Lg.new M draw)) := LgTwo.mk_ hl0 hL
      have HK0 := Lib.hid hk0
      have hgq2 : gq0 < w2.heap.size := Nat.lt_of_lt_of_le hs0' ht.size
      have HK : Hid (LkOf kl M F O true) := ⟨k1, k2, k3, k4⟩
      have hgw2 := HMK2.out.old.size
      have q5 := HMK2.out.cfg.cell 5
      have q6 := HMK2.out.cfg.cell 6
      have ql := HMK2.out.cfg.lt
      simp at q5 q6
      clear hL ht k1 k2 k3 k4 q0 q1 q2 q3 q4 q7 q8 q9 q10 q11 HMK HM hbm hl0 hk0 hq0
      go_wp2_with fail
      refine (HQN.out _).mono ?_
      rintro e w3 ⟨gq, rfl, hgq, hq3, ht⟩
      have HMK3 : Hid (Mk w g g0 b M F C Q O draw w3) := ⟨HMK2.out.old.trans ht, HMK2.out.cfg.touch ht (fun h => h), HMK2.out.route.touch ht (fun h => h)⟩
      have hb3 : Blk w3 g 80 (bnC b M F C Q O (.pointer (some ⟨gl0, 0, none⟩)) (.pointer (some ⟨gq0, 0, none⟩)) (-1) (.pointer none) (.pointer none) 0) := HM2.out.touch ht (fun h => h)
      have HQ3 := Lib.hid (HQ0.out.no ht)
      have HL3 := Lib.hid (HL2.out.no ht)
      have HQN3 := Lib.hid hq3
      have z0 := hb3.cell 19
      have z1 := hb3.cell 20
      have z2 := hb3.cell 21
      have z3 := hb3.cell 22
      have z4 := hb3.cell 23
      have z5 := hb3.cell 24
      have z6 := hb3.cell 25
      have f0 := hb3.frozen 19
      have f1 := hb3.frozen 20
      have f2 := hb3.frozen 21
      have f3 := hb3.frozen 22
      have f4 := hb3.frozen 23
      have f5 := hb3.frozen 24
      have f6 := hb3.frozen 25
      have zl := hb3.lt
      simp [bnC] at z0 z1 z2 z3 z4 z5 z6
      have HB3 := Lib.hid hb3
      clear hq3 ht hb3 q5 q6 ql HL2 HM2 HMK2 HQ0
      go_wp2_with fail
      have hb4 : Blk (((((((w3.setCell ⟨g, 19, none⟩ (.pointer (some ⟨gl, 0, none⟩))).setCell ⟨g, 20, none⟩ (.pointer (some ⟨gq, 0, none⟩))).setCell ⟨g, 21, none⟩ (.bool false)).setCell ⟨g, 22, none⟩ (.int .i64 (-1))).setCell ⟨g, 23, none⟩ (.int .i64 0)).setCell ⟨g, 24, none⟩ (.bool false)).setCell ⟨g, 25, none⟩ (.int .i64 0)) g 80 (bnC b M F C Q O (.pointer (some ⟨gl0, 0, none⟩)) (.pointer (some ⟨gq0, 0, none⟩)) (-1) (.pointer (some ⟨gl, 0, none⟩)) (.pointer (some ⟨gq, 0, none⟩)) (-1)) := by
        have := (((((((HB3.out.set_ 19 (.pointer (some ⟨gl, 0, none⟩))).set_ 20 (.pointer (some ⟨gq, 0, none⟩))).set_ 21 (.bool false)).set_ 22 (.int .i64 (-1))).set_ 23 (.int .i64 0)).set_ 24 (.bool false)).set_ 25 (.int .i64 0))
        unfold bnC at this ⊢
        simpa using this
      have ht4 : Touch (At g) w3 (((((((w3.setCell ⟨g, 19, none⟩ (.pointer (some ⟨gl, 0, none⟩))).setCell ⟨g, 20, none⟩ (.pointer (some ⟨gq, 0, none⟩))).setCell ⟨g, 21, none⟩ (.bool false)).setCell ⟨g, 22, none⟩ (.int .i64 (-1))).setCell ⟨g, 23, none⟩ (.int .i64 0)).setCell ⟨g, 24, none⟩ (.bool false)).setCell ⟨g, 25, none⟩ (.int .i64 0)) := ((((((((Touch.refl (At g) w3).setAt 19 _).setAt 20 _).setAt 21 _).setAt 22 _).setAt 23 _).setAt 24 _).setAt 25 _)
      have HF : Hid (Mk w g g0 b M F C Q O draw (((((((w3.setCell ⟨g, 19, none⟩ (.pointer (some ⟨gl, 0, none⟩))).setCell ⟨g, 20, none⟩ (.pointer (some ⟨gq, 0, none⟩))).setCell ⟨g, 21, none⟩ (.bool false)).setCell ⟨g, 22, none⟩ (.int .i64 (-1))).setCell ⟨g, 23, none⟩ (.int .i64 0)).setCell ⟨g, 24, none⟩ (.bool false)).setCell ⟨g, 25, none⟩ (.int .i64 0))) := ⟨HMK3.out.old.then_new ht4 (fun i hi => .inl (by rw [hi]; exact hgw)), HMK3.out.cfg.touch ht4 (fun h => Blk.ne_ HMK3.out.cfg HB3.out (by decide) h), HMK3.out.route.touch ht4 (fun h => Blk.ne_ HMK3.out.route HB3.out (by decide) h)⟩
      have hq4 := IsQN.types (T := fun t => t = 80) HQN3.out (ByT.at_ ht4 HB3.out rfl) (by decide) (by decide)
      have hl4 := HL3.out.touch ht4 (fun b (hb : b = g) => by rw [hb]; exact ⟨_, _, HB3.out, by decide⟩) (fun b (hb : b = g) => by rw [hb]; exact hgw)
      have hq4' := IsQN.types (T := fun t => t = 80) HQ3.out (ByT.at_ ht4 HB3.out rfl) (by decide) (by decide)
      have HF2 : Hid (Mk2 w g b M F C Q O draw (((((((w3.setCell ⟨g, 19, none⟩ (.pointer (some ⟨gl, 0, none⟩))).setCell ⟨g, 20, none⟩ (.pointer (some ⟨gq, 0, none⟩))).setCell ⟨g, 21, none⟩ (.bool false)).setCell ⟨g, 22, none⟩ (.int .i64 (-1))).setCell ⟨g, 23, none⟩ (.int .i64 0)).setCell ⟨g, 24, none⟩ (.bool false)).setCell ⟨g, 25, none⟩ (.int .i64 0))) := ⟨gl0, k0, gq0, gl, kl, gq, hb4, hl4, HK0.out, HK.out, hq4', hq4, hs0, by omega, by omega⟩
      clear hb4 ht4 hl4 hq4 z0 f0 z1 f1 z2 f2 z3 f3 z4 f4 z5 f5 z6 f6 zl
      go_roundw
      · exact ⟨2, by omega, by go_num, HF.out, fun h => absurd h (by omega), fun h => absurd h (by omega), fun _ => HF2.out⟩
      · simp [intOf]
    · obtain ⟨gl0, k0, gq0, gl1, k1, gq1, hbm, hl, hk0, hk1, hq0, hq1, hs0, hs1, hne⟩ := hm2 rfl
      have HFIN : Hid (∃ (gl gq : Bool → Nat) (X : Bx) (K : Bk), K.message = M ∧ K.count = (C : Int) ∧ K.bytes = (Q : Int) ∧ K.idle = 9 ∧ K.pong = 3 ∧ K.close = 4 ∧ (∀ i, LkOf (K.k i) M F O i) ∧ IsB (fun b => b < w.heap.size) wr g X K gl gq (Br.new M draw)) := by
        refine ⟨fun i => if i = true then gl1 else gl0, fun i => if i = true then gq1 else gq0, ⟨.slice (some ⟨b, 0, none⟩) 1 1, .slice none 0 0, .int .i64 4, .int .i64 F, .int .i64 O, .int .i64 5⟩, ⟨fun i => if i = true then k1 else k0, M, C, Q, 9, 3, 4⟩, rfl, rfl, rfl, rfl, rfl, rfl, fun i => ?_, ⟨?_, ?_, fun i => ?_, hne, by omega, fun i => ?_⟩⟩
        · cases i
          · exact hk0
          · exact hk1
        · exact hbm
        · refine (Legs.two (w0 := w) ?_)
          exact hl
        · cases i
          · exact hq0
          · exact hq1
        · cases i
          · show ¬ gq0 < w.heap.size
            omega
          · show ¬ gq1 < w.heap.size
            omega
      clear hm0 hm1 hm2 hbm hl hk0 hk1 hq0 hq1
      go_wp2_with fail
      refine bodyPost_ret (v := .tuple #[.pointer (some ⟨g, 0, none⟩), .int .i64 0]) (by simp [results, Tryz.results13, go_sem]) rfl ?_
      obtain ⟨gl, gq, X, K, h1, h2, h3, h4, h5, h6, h7, h8⟩ := HFIN.out
      exact ⟨g, gl, gq, X, K, rfl, h1, h2, h3, h4, h5, h6, h7, h8, HMK.out.old⟩
end Go.Proofs.YtlnabpoohnphiaaGreat
/- law17: few, play; what starts each law. -/
namespace Go.Proofs.YtlnabpoohnphiaaGreat
open Go.RowKit
set_option linter.unusedSimpArgs false
set_option linter.unusedVariables false

theorem conv_of2 (s : ByteArray) (n : Nat) (hn : s.size = n) : ∃ (W2 : World → World) (cp : World → Nat), ∀ W, (convert 9 43 (.string s)).run Tryz.prog W = .ok (.slice (some ⟨W.heap.size, 0, none⟩) n (cp W)) (W2 W) ∧ Touch NoS W (W2 W) ∧ Rd (W2 W) (some ⟨W.heap.size, 0, none⟩) (u8s (sb s)) ∧ W.heap.size < (W2 W).heap.size ∧ n ≤ cp W := by
  subst hn
  exact ⟨fun W => Lib.bytesWorld W 5 s, fun W => grownCap W s.size 0 5, fun W => ⟨Lib.run_convert_string_bytes (P := Tryz.prog) W 9 43 5 s Tryz.underlying9 Tryz.underlying43 Tryz.underlying5, conv_touch _ _ _, conv_rd _ _ _, by rw [Lib.bytesWorld_size]; omega, grownCap_ge _ _ _ _⟩⟩
set_option maxHeartbeats 3200000 in
set_option maxRecDepth 100000 in
theorem l_few17 (x : Act2) (hx : x.s.size ≤ maxLen) (w : World) : Calls Tryz.prog 25 #[.agg #[.int .i64 x.kind, .int .i64 x.side, .int .i64 x.n, .string x.s]] w fun e w' => e = .returned (.bool (decide (x.s.size ≤ 300))) ∧ Touch NoS w w' := by
  unfold maxLen at hx
  obtain ⟨kind, side, n, s⟩ := x
  by_cases h : s.size ≤ 300
  · have h2 : (s.size : Int) ≤ 300 := by omega
    go_enter Tryz.func25, Tryz.ntmps25
    go_wp2_with fail
    go_ret
    exact ⟨by simp [h], (Touch.refl _ _).alloc _⟩
  · have h2 : ¬ ((s.size : Int) ≤ 300) := by omega
    go_enter Tryz.func25, Tryz.ntmps25
    go_wp2_with fail
    go_ret
    exact ⟨by simp [h], (Touch.refl _ _).alloc _⟩
section
variable {E : Nat → Prop} {w w' : World} {g : Nat} {X : Bx} {K : Bk} {gl gq : Bool → Nat} {B B' : Br}
set_option maxHeartbeats 3200000 in
set_option maxRecDepth 100000 in
theorem b_feed_no {i : Int} (h0 : i ≠ 0) (h1 : i ≠ 1) (A : Option Addr) (n c : Nat) (w : World) : Calls Tryz.prog 17 #[.pointer (some ⟨g, 0, none⟩), .int .i64 i, .slice A n c] w fun e w' => e = .returned (.int .i64 0) ∧ w = w' := by
  have HH := Lib.hid (fun W => has_no h0 h1 W)
  clear h0 h1
  go_enter Tryz.func17, Tryz.ntmps17
  go_wp2_with fail
  refine (HH.out _).mono ?_
  rintro e w2 ⟨rfl, rfl⟩
  go_wp2_with fail
  go_ret
  exact ⟨rfl, rfl⟩
/-- A string's bytes are fed. -/
theorem Sett.feed {w0 : World} (h : Sett E w0 w g X K gl gq B) {n0 : Nat} {t : Int} (hI : BrI K n0 t B) (hK : Kfits K) (h0t : 0 ≤ t) (hn0 : n0 ≤ 100000) (hms : K.message ≤ 65536) (i : Bool) (s : ByteArray) (hs : s.size ≤ 1000000) (W : World) (ht : Touch NoS w W) (b n c : Nat) (hb : w.heap.size ≤ b) (hbl : b < W.heap.size) (hn : s.size = n) (hc : n ≤ c) (hr : Rd W (some ⟨b, 0, none⟩) (u8s (sb s))) :
    Calls Tryz.prog 17 #[.pointer (some ⟨g, 0, none⟩), .int .i64 i.toNat, .slice (some ⟨b, 0, none⟩) n c] W fun e w' => e = .returned (.int .i64 (B.feed K i (sb s)).2) ∧ Sett E w0 w' g X K gl gq (B.feed K i (sb s)).1 := by
  refine (b_feed (h.is.grow ht) hI hK h0t hn0 hms i (sb s) (sb_in s) (some ⟨b, 0, none⟩) n c (by rw [sb_length]; exact hn) (by omega) hc hr (fun a ha => by cases ha; exact .inr ⟨hb, hbl⟩)).mono ?_
  rintro e w' ⟨rfl, q⟩
  exact ⟨rfl, q.is.less fun b hb => .inl hb, (h.touch.trans ht.of_no).trans (q.touch.mono fun b hb he => hb (.inl he)), (h.byT.trans (ByT.no ht)).trans q.byT⟩
set_option maxHeartbeats 6400000 in
set_option maxRecDepth 100000 in
theorem b_play {w0 : World} (h : Sett E w0 w g X K gl gq B) {n : Nat} {t : Int} (hI : BrI K n t B) (hK : Kfits K) (h0t : 0 ≤ t) (ht : t ≤ 900000000000000) (hn : n ≤ 90000) (hms : K.message ≤ 65536) (x : Act2) (hx : x.s.size ≤ 300) :
    Calls Tryz.prog 29 #[.pointer (some ⟨g, 0, none⟩), .agg #[.int .i64 x.kind, .int .i64 x.side, .int .i64 x.n, .string x.s]] w fun e w' => e = .returned (.tuple #[]) ∧ Sett E w0 w' g X K gl gq (B.play K x) := by
  obtain ⟨kind, side, na, sa⟩ := x
  simp only at hx
  have HPL : Hid (Br.play K B ⟨kind, side, na, sa⟩ = Br.play K B ⟨kind, side, na, sa⟩) := rfl
  obtain ⟨R, hR⟩ : ∃ R, R = Br.play K B ⟨kind, side, na, sa⟩ := ⟨_, rfl⟩
  rw [← hR]
  unfold Br.play at hR
  simp only at hR
  have HR := Lib.hid hR
  have HS := Lib.hid h
  have HI := Lib.hid hI
  have HK := Lib.hid hK
  obtain ⟨ns, hns⟩ : ∃ n, n = sa.size := ⟨_, rfl⟩
  obtain ⟨W2, cp, hW2⟩ := conv_of2 sa ns hns.symm
  have hc2 := fun W => (hW2 W).1
  have hc3 := fun W => (hW2 W).2
  have HC3 := Lib.hid hc3
  have HNS := Lib.hid hns.symm
  have hnb : ns ≤ 300 := by omega
  clear h hI hK hR HPL hW2 hc3 hns
  go_enter Tryz.func29, Tryz.ntmps29
  by_cases h0 : kind = 0
  · subst h0
    rcases sideB_cases side with ⟨i, rfl, hsd⟩ | ⟨n0, n1, hsd⟩
    · have hRR : R = (B.feed K i (sb sa)).1 := by rw [HR.out, if_pos rfl, hsd]
      have HRR := Lib.hid hRR
      have HFD : Hid (∀ W b q, Touch NoS w W → w.heap.size ≤ b → b < W.heap.size → Rd W (some ⟨b, 0, none⟩) (u8s (sb sa)) → ns ≤ q → Calls Tryz.prog 17 #[.pointer (some ⟨g, 0, none⟩), .int .i64 i.toNat, .slice (some ⟨b, 0, none⟩) ns q] W fun e w' => (∃ r, e = .returned (.int .i64 r)) ∧ Sett E w0 w' g X K gl gq R) := fun W b q t h1 h2 h3 h4 => by
        refine (HS.out.feed HI.out HK.out h0t (by omega) hms i sa (by omega) W t b ns q h1 h2 HNS.out h4 h3).mono ?_
        rintro e w' ⟨rfl, h⟩
        rw [HRR.out]
        exact ⟨⟨_, rfl⟩, h⟩
      have HT0 : Hid (Touch NoS w (w.alloc (.cells #[.int .i64 0, .int .i64 i.toNat, .int .i64 na, .string sa] 64))) := (Touch.refl _ _).alloc _
      clear hRR hsd HR
      go_wp2_with fail
      have h3 := HC3.out (w.alloc (.cells #[.int .i64 0, .int .i64 i.toNat, .int .i64 na, .string sa] 64))
      have hsz := HT0.out.size
      refine (HFD.out _ _ _ (HT0.out.trans h3.1) (by simp) (by simpa using h3.2.2.1) (by simpa using h3.2.1) (by simpa using h3.2.2.2)).mono ?_
      rintro e w3 ⟨⟨r, rfl⟩, h4⟩
      have H4 := Lib.hid h4
      clear h4 h3
      go_wp2_with fail
      go_end0
      exact ⟨rfl, H4.out⟩
    · have hRR : R = B := by rw [HR.out, if_pos rfl, hsd]
      rw [hRR]
      have HFN : Hid (∀ W b q, Calls Tryz.prog 17 #[.pointer (some ⟨g, 0, none⟩), .int .i64 side, .slice (some ⟨b, 0, none⟩) ns q] W fun e w' => e = .returned (.int .i64 0) ∧ W = w') := fun W b q => b_feed_no n0 n1 _ _ _ W
      have HT0 : Hid (Touch NoS w (w.alloc (.cells #[.int .i64 0, .int .i64 side, .int .i64 na, .string sa] 64))) := (Touch.refl _ _).alloc _
      have HFIN := Lib.hid (HS.out.no (HT0.out.trans (HC3.out _).1))
      clear hRR hsd HR
      go_wp2_with fail
      refine (HFN.out _ _ _).mono ?_
      rintro e w3 ⟨rfl, rfl⟩
      go_wp2_with fail
      go_end0
      exact ⟨rfl, HFIN.out⟩
  by_cases h1 : kind = 1
  · subst h1
    rcases sideB_cases side with ⟨i, rfl, hsd⟩ | ⟨n0, n1, hsd⟩
    · have hRR : R = B.take K i na := by rw [HR.out, if_neg h0, if_pos rfl, hsd]
      have HRR := Lib.hid hRR
      have HTK : Hid (∀ W, Touch NoS w W → Calls Tryz.prog 18 #[.pointer (some ⟨g, 0, none⟩), .int .i64 i.toNat, .int .i64 na] W fun e w' => (∃ A n c, e = .returned (.slice A n c)) ∧ Sett E w0 w' g X K gl gq R) := fun W t => by
        refine (b_take (HS.out.no t).is HI.out HK.out (by omega) i na).mono ?_
        rintro e w' ⟨⟨A, c, rfl, -⟩, h⟩
        rw [HRR.out]
        exact ⟨⟨_, _, _, rfl⟩, (HS.out.no t).trans h.is h.touch h.byT⟩
      clear hRR hsd HR
      go_wp2_with fail
      refine (HTK.out _ ((Touch.refl _ _).alloc _)).mono ?_
      rintro e w3 ⟨⟨A3, n3, c3, rfl⟩, h4⟩
      have H4 := Lib.hid h4
      clear h4
      go_wp2_with fail
      go_end0
      exact ⟨rfl, H4.out⟩
    · have hRR : R = B := by rw [HR.out, if_neg h0, if_pos rfl, hsd]
      rw [hRR]
      have HFN : Hid (∀ W, Calls Tryz.prog 18 #[.pointer (some ⟨g, 0, none⟩), .int .i64 side, .int .i64 na] W fun e w' => e = .returned (.slice none 0 0) ∧ W = w') := fun W => b_take_no n0 n1 _ W
      have HFIN := Lib.hid (HS.out.no ((Touch.refl _ _).alloc (.cells #[.int .i64 1, .int .i64 side, .int .i64 na, .string sa] 64)))
      clear hRR hsd HR
      go_wp2_with fail
      refine (HFN.out _).mono ?_
      rintro e w3 ⟨rfl, rfl⟩
      go_wp2_with fail
      go_end0
      exact ⟨rfl, HFIN.out⟩
  by_cases h2 : kind = 2
  · subst h2
    have hRR : R = B.tick K na := by rw [HR.out, if_neg h0, if_neg h1, if_pos rfl]
    have HRR := Lib.hid hRR
    have HTK : Hid (∀ W, Touch NoS w W → Calls Tryz.prog 23 #[.pointer (some ⟨g, 0, none⟩), .int .i64 na] W fun e w' => e = .returned (.tuple #[]) ∧ Sett E w0 w' g X K gl gq R) := fun W t => by
      refine (b_tick (HS.out.no t).is HI.out HK.out (by omega) (by omega) na).mono ?_
      rintro e w' ⟨rfl, h⟩
      rw [HRR.out]
      exact ⟨rfl, (HS.out.no t).trans h.is h.touch h.byT⟩
    clear hRR HR
    go_wp2_with fail
    refine (HTK.out _ ((Touch.refl _ _).alloc _)).mono ?_
    rintro e w3 ⟨rfl, h4⟩
    have H4 := Lib.hid h4
    clear h4
    go_wp2_with fail
    go_end0
    exact ⟨rfl, H4.out⟩
  by_cases h3 : kind = 3
  · subst h3
    rcases sideB_cases side with ⟨i, rfl, hsd⟩ | ⟨n0, n1, hsd⟩
    · have hRR : R = B.lose K i := by rw [HR.out, if_neg h0, if_neg h1, if_neg h2, if_pos rfl, hsd]
      have HRR := Lib.hid hRR
      have HTK : Hid (∀ W, Touch NoS w W → Calls Tryz.prog 26 #[.pointer (some ⟨g, 0, none⟩), .int .i64 i.toNat] W fun e w' => e = .returned (.tuple #[]) ∧ Sett E w0 w' g X K gl gq R) := fun W t => by
        refine (b_lose (HS.out.no t).is HI.out HK.out (by omega) i).mono ?_
        rintro e w' ⟨rfl, h⟩
        rw [HRR.out]
        exact ⟨rfl, (HS.out.no t).trans h.is h.touch h.byT⟩
      clear hRR hsd HR
      go_wp2_with fail
      refine (HTK.out _ ((Touch.refl _ _).alloc _)).mono ?_
      rintro e w3 ⟨rfl, h4⟩
      have H4 := Lib.hid h4
      clear h4
      go_wp2_with fail
      go_end0
      exact ⟨rfl, H4.out⟩
    · have hRR : R = B := by rw [HR.out, if_neg h0, if_neg h1, if_neg h2, if_pos rfl, hsd]
      rw [hRR]
      have HFN : Hid (∀ W, Calls Tryz.prog 26 #[.pointer (some ⟨g, 0, none⟩), .int .i64 side] W fun e w' => e = .returned (.tuple #[]) ∧ W = w') := fun W => b_lose_no n0 n1 W
      have HFIN := Lib.hid (HS.out.no ((Touch.refl _ _).alloc (.cells #[.int .i64 3, .int .i64 side, .int .i64 na, .string sa] 64)))
      clear hRR hsd HR
      go_wp2_with fail
      refine (HFN.out _).mono ?_
      rintro e w3 ⟨rfl, rfl⟩
      go_wp2_with fail
      go_end0
      exact ⟨rfl, HFIN.out⟩
  · have hRR : R = B := by rw [HR.out, if_neg h0, if_neg h1, if_neg h2, if_neg h3]
    rw [hRR]
    have HFIN := Lib.hid (HS.out.no ((Touch.refl _ _).alloc (.cells #[.int .i64 kind, .int .i64 side, .int .i64 na, .string sa] 64)))
    clear hRR HR
    go_wp2_with fail
    go_end0
    exact ⟨rfl, HFIN.out⟩
end
end Go.Proofs.YtlnabpoohnphiaaGreat
