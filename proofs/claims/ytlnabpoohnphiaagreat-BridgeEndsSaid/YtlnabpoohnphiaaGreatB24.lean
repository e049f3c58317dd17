/- route.Check on the laws' configuration; the laws' configuration. | leg: New; the laws' configuration. | leg: one side as the laws see it; awake. | leg: what always holds of a side; plain Lean. -/
import Derived.Test.YtlnabpoohnphiaaGreatB23
import Derived.Test.YtlnabpoohnphiaaGreatB01
/- route.Check on the laws' configuration; the laws' configuration. -/
namespace Go.Proofs.YtlnabpoohnphiaaGreat
open Go.RowKit
set_option linter.unusedSimpArgs false
set_option linter.unusedVariables false

def cfgV (b : Nat) (M F O : Nat) : Array Value := #[.slice (some ⟨b, 0, none⟩) 1 1, .slice none 0 0, .int .i64 4, .int .i64 M, .int .i64 F, .int .i64 3, .int .i64 300, .int .i64 O, .int .i64 5, .int .i64 9, .int .i64 3, .int .i64 4]
set_option maxHeartbeats 12800000 in
set_option maxRecDepth 100000 in
theorem r_check (b M F O : Nat) (h1 : 1 ≤ M) (h2 : M ≤ 300) (h3 : 1 ≤ F) (h4 : F ≤ 65536) (h5 : 1 ≤ O) (h6 : O ≤ 65536) (w : World) (hb : Blk w b 101 #[.string ⟨#[47]⟩, .string ⟨#[]⟩, .string ⟨#[120]⟩]) :
    Calls Tryz.prog 53 #[.agg (cfgV b M F O)] w fun e w' => e = .returned (.int .i64 0) ∧ Touch NoS w w' := by
  have x0 : ∀ W, (Instr.index 135 (.agg #[.int .i64 5, .int .i64 9, .int .i64 3, .int .i64 4]) (.int .i64 0)).run Tryz.prog W = .ok (.int .i64 5) W := fun W => rfl
  have x1 : ∀ W, (Instr.index 135 (.agg #[.int .i64 5, .int .i64 9, .int .i64 3, .int .i64 4]) (.int .i64 1)).run Tryz.prog W = .ok (.int .i64 9) W := fun W => rfl
  have x2 : ∀ W, (Instr.index 135 (.agg #[.int .i64 5, .int .i64 9, .int .i64 3, .int .i64 4]) (.int .i64 2)).run Tryz.prog W = .ok (.int .i64 3) W := fun W => rfl
  have x3 : ∀ W, (Instr.index 135 (.agg #[.int .i64 5, .int .i64 9, .int .i64 3, .int .i64 4]) (.int .i64 3)).run Tryz.prog W = .ok (.int .i64 4) W := fun W => rfl
  have q0 := hb.cell 0
  have q1 := hb.cell 1
  have q2 := hb.cell 2
  have ql := hb.lt
  simp at q0 q1 q2
  have HB := Lib.hid hb
  have HI := Lib.hid (fun n a b h1 h2 W => r_in n a b h1 h2 W)
  have HRI := Lib.hid (fun W => r_right W)
  have HCO := Lib.hid (fun A c W => r_contains0 A c W)
  have i1 : (1 : Int) ≤ M := by omega
  have i2 : (M : Int) ≤ 65536 := by omega
  have i2b : (M : Int) ≤ 300 := by omega
  have i3 : (1 : Int) ≤ F := by omega
  have i4 : (F : Int) ≤ 65536 := by omega
  have i5 : (1 : Int) ≤ O := by omega
  have i6 : (O : Int) ≤ 65536 := by omega
  unfold cfgV
  clear hb
  go_enter Tryz.func53, Tryz.ntmps53
  obtain ⟨w0, hw0⟩ : ∃ w0, w0 = w.alloc (.cells (cfgV b M F O) 29) := ⟨_, rfl⟩
  obtain ⟨gc, hgc⟩ : ∃ g, g = w.heap.size := ⟨_, rfl⟩
  have hbc : Blk w0 gc 29 (cfgV b M F O) := by rw [hw0, hgc]; exact Blk.new _ _ _
  have HT0 : Hid (Touch NoS w w0) := by rw [hw0]; exact (Touch.refl _ _).alloc _
  have HBC := Lib.hid hbc
  have c0 := hbc.cell 0
  have c1 := hbc.cell 1
  have c2 := hbc.cell 2
  have c3 := hbc.cell 3
  have c4 := hbc.cell 4
  have c5 := hbc.cell 5
  have c6 := hbc.cell 6
  have c7 := hbc.cell 7
  have c8 := hbc.cell 8
  have c9 := hbc.cell 9
  have c10 := hbc.cell 10
  have c11 := hbc.cell 11
  have cl := hbc.lt
  simp [cfgV] at c0 c1 c2 c3 c4 c5 c6 c7 c8 c9 c10 c11
  unfold cfgV at hw0
  go_upto_region 2 with (fail)
  rw [← hw0, ← hgc]
  clear hw0 hgc hbc
  go_upto_region 3 with (go_at_call 77; refine (HI.out _ _ _ (by omega) (by omega) _).mono ?_; rintro e w9 ⟨rfl, rfl⟩)
  go_wp2_with fail
  go_loopw [4, 67] (fun ok iv wr => ∃ k : Nat, k ≤ 4 ∧ iv = .int .i64 k ∧ ok = .bool true ∧ wr = w0) (fun _ iv _ => 4 - (intOf iv).toNat)
  case atStart => exact ⟨0, by omega, rfl, rfl, rfl⟩
  case round =>
    obtain ⟨k, hk, rfl, rfl, rfl⟩ := hrel
    by_cases hlt : k < 4
    · have hkc : k = 0 ∨ k = 1 ∨ k = 2 ∨ k = 3 := by omega
      rcases hkc with rfl | rfl | rfl | rfl
      all_goals
        go_wp2_with (go_at_call 77; refine (HI.out _ _ _ (by omega) (by omega) _).mono ?_; rintro e w9 ⟨rfl, rfl⟩)
        go_roundw
        · first
            | exact ⟨1, by omega, by go_num, rfl, by first | trivial | rfl⟩
            | exact ⟨2, by omega, by go_num, rfl, by first | trivial | rfl⟩
            | exact ⟨3, by omega, by go_num, rfl, by first | trivial | rfl⟩
            | exact ⟨4, by omega, by go_num, rfl, by first | trivial | rfl⟩
        · simp [intOf]
    · have hge : ¬ ((k : Int) < 4) := by omega
      go_wp2_with fail
      clear hge hlt hk
      go_loopw [4, 80] (fun ok iv wr => ∃ k : Nat, k ≤ 1 ∧ iv = .int .i64 k ∧ ok = .bool true ∧ Touch NoS w wr ∧ Blk wr gc 29 (cfgV b M F O)) (fun _ iv _ => 1 - (intOf iv).toNat)
      case atStart => exact ⟨0, by omega, rfl, rfl, HT0.out, HBC.out⟩
      case round =>
        obtain ⟨k, hk, rfl, rfl, ht, hbg⟩ := hrel
        have HT := Lib.hid ht
        have HBG := Lib.hid hbg
        by_cases hlt : k < 1
        · obtain rfl : k = 0 := by omega
          have hb1 := HB.out.touch ht (fun h => h)
          have r0 := hb1.cell 0
          have r1 := hb1.cell 1
          have r2 := hb1.cell 2
          have rl := hb1.lt
          simp at r0 r1 r2
          clear c0 c1 c2 c3 c4 c5 c6 c7 c8 c9 c10 c11 cl q0 q1 q2 ql ht hb1 hbg x0 x1 x2 x3
          go_upto_region 11 with (fail)
          obtain ⟨w2, hw2⟩ : ∃ w2, w2 = wr.alloc (.cells #[.string ⟨#[47]⟩, .string ⟨#[]⟩, .string ⟨#[120]⟩] 101) := ⟨_, rfl⟩
          obtain ⟨g2, hg2⟩ : ∃ g, g = wr.heap.size := ⟨_, rfl⟩
          have hb2 : Blk w2 g2 101 #[.string ⟨#[47]⟩, .string ⟨#[]⟩, .string ⟨#[120]⟩] := by rw [hw2, hg2]; exact Blk.new _ _ _
          have hbg2 : Blk w2 gc 29 (cfgV b M F O) := by rw [hw2]; exact HBG.out.alloc _
          have HT2 : Hid (Touch NoS w w2) := by rw [hw2]; exact HT.out.alloc _
          rw [← hw2, ← hg2]
          have z0 := hb2.cell 0
          have z1 := hb2.cell 1
          have z2 := hb2.cell 2
          have zl := hb2.lt
          have zc := hbg2.cell 0
          have zcl := hbg2.lt
          simp [cfgV] at z0 z1 z2 zc
          have HB2 := Lib.hid hb2
          have HBG2 := Lib.hid hbg2
          clear hw2 hg2 hb2 hbg2 r0 r1 r2 rl
          go_region_with (first
              | (go_at_call 78; refine (HRI.out _).mono ?_; rintro e w5 ⟨rfl, ht5⟩; have hb5 := HB2.out.drew.touch ht5 (fun h => h); have hg5 := HBG2.out.drew.touch ht5 (fun h => h); have z0 := hb5.cell 0; have z1 := hb5.cell 1; have z2 := hb5.cell 2; have zl := hb5.lt; have zc := hg5.cell 0; have zcl := hg5.lt; simp [cfgV] at z0 z1 z2 zc; have HT5 : Hid (Touch NoS w2 w5) := (Touch.refl NoS w2).drew.trans ht5; clear hb5 hg5 ht5)
              | (go_at_call 79; refine (HCO.out _ _ _).mono ?_; rintro e w6 ⟨rfl, ht6⟩; have HT6 := Lib.hid (HT5.out.trans ht6); clear ht6))
          all_goals
            have HT9 := Lib.hid (HT2.out.trans HT6.out)
            have HB9 := Lib.hid (HBG2.out.touch HT6.out (fun h => h))
            simp [Act.put]
            go_wp2_with fail
            go_roundw
            · exact ⟨1, by omega, by go_num, rfl, HT9.out, HB9.out⟩
            · simp [intOf]
        · obtain rfl : k = 1 := by omega
          clear ht hbg
          go_wp2_with fail
          go_ret
          exact ⟨rfl, HT.out⟩
end Go.Proofs.YtlnabpoohnphiaaGreat
/- leg: New; the laws' configuration. -/
namespace Go.Proofs.YtlnabpoohnphiaaGreat
open Go.RowKit
set_option linter.unusedSimpArgs false
set_option linter.unusedVariables false

theorem cfg_info : (Tryz.prog.info? 29).map (·.size) = some 12 := by kernel_rfl
theorem cfg_load {w : World} {g b M F O : Nat} (h : Blk w g 29 (cfgV b M F O)) : (loadVar 29 ⟨g, 0, none⟩).run Tryz.prog w = .ok (.agg (cfgV b M F O)) w :=
  run_loadVar_row w g 29 29 (cfgV b M F O) (0, 0) _ h Tryz.underlying29 rfl (by rw [show (cfgV b M F O).size = 12 from rfl]; exact cfg_info)
set_option maxHeartbeats 3200000 in
set_option maxRecDepth 100000 in
theorem l_cfg (m s o : Nat) (hm : m ≤ 255) (hs : s ≤ 255) (ho : o ≤ 255) (w : World) : Calls Tryz.prog 31 #[.int .u8 m, .int .u8 s, .int .u8 o] w fun e w' =>
    ∃ b, e = .returned (.agg (cfgV b (1 + m) (1 + s) (1 + o))) ∧ w.heap.size ≤ b ∧ Blk w' b 101 #[.string ⟨#[47]⟩, .string ⟨#[]⟩, .string ⟨#[120]⟩] ∧ Touch NoS w w' := by
  go_enter Tryz.func31, Tryz.ntmps31
  go_wp2_with fail
  have hb : Blk ((w.alloc (.cells #[.slice (some ⟨w.heap.size + 1, 0, none⟩) 1 1, .slice none 0 0, .int .i64 4, .int .i64 (1 + m), .int .i64 (1 + s), .int .i64 3, .int .i64 300, .int .i64 (1 + o), .int .i64 5, .int .i64 9, .int .i64 3, .int .i64 4] 29)).alloc (.cells #[.string ⟨#[47]⟩, .string ⟨#[]⟩, .string ⟨#[120]⟩] 101)) w.heap.size 29 (cfgV (w.heap.size + 1) (1 + m) (1 + s) (1 + o)) := by
    have := (Blk.new w 29 (cfgV (w.heap.size + 1) (1 + m) (1 + s) (1 + o))).alloc (.cells #[.string ⟨#[47]⟩, .string ⟨#[]⟩, .string ⟨#[120]⟩] 101)
    unfold cfgV at this ⊢
    simpa using this
  have hld := cfg_load hb
  refine bodyPost_ret (v := .agg (cfgV (w.heap.size + 1) (1 + m) (1 + s) (1 + o))) (by simp [results, Tryz.results31, go_sem, hld, cfgV]) rfl ?_
  refine ⟨w.heap.size + 1, rfl, by omega, ?_, ((Touch.refl _ _).alloc _).alloc _⟩
  have := Blk.new (w.alloc (.cells #[.slice (some ⟨w.heap.size + 1, 0, none⟩) 1 1, .slice none 0 0, .int .i64 4, .int .i64 (1 + m), .int .i64 (1 + s), .int .i64 3, .int .i64 300, .int .i64 (1 + o), .int .i64 5, .int .i64 9, .int .i64 3, .int .i64 4] 29)) 101 #[.string ⟨#[47]⟩, .string ⟨#[]⟩, .string ⟨#[120]⟩]
  simpa using this
def Lg.new (message : Nat) (draw : Int) : Lg := ⟨[], 0, Mc.new message, ⟨[], [], [], [], draw⟩, false, false, 0⟩
def LV.nil : LV := ⟨.slice none 0 0, .slice none 0 0, .slice none 0 0, .slice none 0 0, .slice none 0 0⟩
set_option maxHeartbeats 6400000 in
set_option maxRecDepth 100000 in
theorem l_new (A1 A2 : Option Addr) (n1 c1 n2 c2 : Nat) (T : Int) (M F : Nat) (C B : Int) (O : Nat) (sh id po cl : Int) (masked : Bool) (draw : Int) (w : World) (h1 : 1 ≤ M) (h2 : M ≤ 65536) (h3 : 1 ≤ O) (h4 : O ≤ 65536)
    (hck : ∀ W, Touch NoS w W → Calls Tryz.prog 53 #[.agg #[.slice A1 n1 c1, .slice A2 n2 c2, .int .i64 T, .int .i64 M, .int .i64 F, .int .i64 C, .int .i64 B, .int .i64 O, .int .i64 sh, .int .i64 id, .int .i64 po, .int .i64 cl]] W fun e w' => e = .returned (.int .i64 0) ∧ Touch NoS W w') :
    Calls Tryz.prog 32 #[.agg #[.slice A1 n1 c1, .slice A2 n2 c2, .int .i64 T, .int .i64 M, .int .i64 F, .int .i64 C, .int .i64 B, .int .i64 O, .int .i64 sh, .int .i64 id, .int .i64 po, .int .i64 cl], .bool masked, .int .u32 draw] w fun e w' =>
      ∃ g k, e = .returned (.tuple #[.pointer (some ⟨g, 0, none⟩), .int .i64 0]) ∧ k.message = M ∧ k.frame = F ∧ k.out = O ∧ k.masks = !masked ∧ IsL w' g k (Lg.new M draw) LV.nil ∧ (∀ b, LF g k LV.nil b → w.heap.size ≤ b) ∧ Touch NoS w w' := by
  have HCK := Lib.hid hck
  have hmx : max (M : Int) 125 = ((max M 125 : Nat) : Int) := by omega
  clear hck
  go_enter Tryz.func32, Tryz.ntmps32
  go_wp2_with fail
  refine (HCK.out _ ((Touch.refl _ _).alloc _)).mono ?_
  rintro e w1 ⟨rfl, ht⟩
  have hb := (Blk.new w 29 #[.slice A1 n1 c1, .slice A2 n2 c2, .int .i64 T, .int .i64 M, .int .i64 F, .int .i64 C, .int .i64 B, .int .i64 O, .int .i64 sh, .int .i64 id, .int .i64 po, .int .i64 cl]).touch ht (fun h => h)
  have HT := Lib.hid (((Touch.refl NoS w).alloc (.cells #[.slice A1 n1 c1, .slice A2 n2 c2, .int .i64 T, .int .i64 M, .int .i64 F, .int .i64 C, .int .i64 B, .int .i64 O, .int .i64 sh, .int .i64 id, .int .i64 po, .int .i64 cl] 29)).trans ht)
  have q0 := hb.cell 0
  have q1 := hb.cell 1
  have q2 := hb.cell 2
  have q3 := hb.cell 3
  have q4 := hb.cell 4
  have q5 := hb.cell 5
  have q6 := hb.cell 6
  have q7 := hb.cell 7
  have q8 := hb.cell 8
  have q9 := hb.cell 9
  have q10 := hb.cell 10
  have q11 := hb.cell 11
  have ql := hb.lt
  simp at q0 q1 q2 q3 q4 q5 q6 q7 q8 q9 q10 q11
  have HB := Lib.hid hb
  clear ht hb
  go_wp2_with fail
  have HBL0 : Hid (Blk (w1.alloc (.cells #[.slice A1 n1 c1, .slice A2 n2 c2, .int .i64 T, .int .i64 M, .int .i64 F, .int .i64 C, .int .i64 B, .int .i64 O, .int .i64 sh, .int .i64 id, .int .i64 po, .int .i64 cl, .pointer none, .pointer none, .pointer none, .slice none 0 0, .slice none 0 0, .slice none 0 0, .bool (!masked), .int .u32 draw, .bool false, .bool false, .int .i64 0] 109)) w1.heap.size 109 #[.slice A1 n1 c1, .slice A2 n2 c2, .int .i64 T, .int .i64 M, .int .i64 F, .int .i64 C, .int .i64 B, .int .i64 O, .int .i64 sh, .int .i64 id, .int .i64 po, .int .i64 cl, .pointer none, .pointer none, .pointer none, .slice none 0 0, .slice none 0 0, .slice none 0 0, .bool (!masked), .int .u32 draw, .bool false, .bool false, .int .i64 0]) := Blk.new _ _ _
  have HTL0 : Hid (Touch NoS w (w1.alloc (.cells #[.slice A1 n1 c1, .slice A2 n2 c2, .int .i64 T, .int .i64 M, .int .i64 F, .int .i64 C, .int .i64 B, .int .i64 O, .int .i64 sh, .int .i64 id, .int .i64 po, .int .i64 cl, .pointer none, .pointer none, .pointer none, .slice none 0 0, .slice none 0 0, .slice none 0 0, .bool (!masked), .int .u32 draw, .bool false, .bool false, .int .i64 0] 109))) := HT.out.alloc _
  have HBC0 := Lib.hid (HB.out.alloc (.cells #[.slice A1 n1 c1, .slice A2 n2 c2, .int .i64 T, .int .i64 M, .int .i64 F, .int .i64 C, .int .i64 B, .int .i64 O, .int .i64 sh, .int .i64 id, .int .i64 po, .int .i64 cl, .pointer none, .pointer none, .pointer none, .slice none 0 0, .slice none 0 0, .slice none 0 0, .bool (!masked), .int .u32 draw, .bool false, .bool false, .int .i64 0] 109))
  have hws1 := HT.out.size
  obtain ⟨g, hg⟩ : ∃ g, g = w1.heap.size := ⟨_, rfl⟩
  have hgw : w.heap.size ≤ g := by rw [hg]; exact hws1
  obtain ⟨w2, hw2⟩ : ∃ w2, w2 = w1.alloc (.cells #[.slice A1 n1 c1, .slice A2 n2 c2, .int .i64 T, .int .i64 M, .int .i64 F, .int .i64 C, .int .i64 B, .int .i64 O, .int .i64 sh, .int .i64 id, .int .i64 po, .int .i64 cl, .pointer none, .pointer none, .pointer none, .slice none 0 0, .slice none 0 0, .slice none 0 0, .bool (!masked), .int .u32 draw, .bool false, .bool false, .int .i64 0] 109) := ⟨_, rfl⟩
  rw [← hw2] at HBL0 HTL0 HBC0
  rw [← hg] at HBL0
  rw [← hw2, ← hg]
  clear hw2 hg q0 q1 q2 q3 q4 q5 q6 q7 q8 q9 q10 q11 ql hws1 HB HT
  refine (stv_new masked _ (by omega) (by omega) w2).mono ?_
  rintro e w3 ⟨rfl, hs3, ht3⟩
  have hb3 := HBL0.out.touch ht3 (fun h => h)
  have hc3 := HBC0.out.touch ht3 (fun h => h)
  have HS3 := Lib.hid hs3
  have HT3 := Lib.hid (HTL0.out.trans ht3)
  have hgs : w.heap.size ≤ w2.heap.size := HTL0.out.size
  obtain ⟨sg, hsg⟩ : ∃ x, x = w2.heap.size := ⟨_, rfl⟩
  rw [← hsg] at HS3 hgs ⊢
  have q12 := hb3.cell 12
  have f12 := hb3.frozen 12
  have l3 := hb3.lt
  have q3 := hc3.cell 3
  simp at q12 q3
  have hneg : sg ≠ g := Blk.ne_ HS3.out.1 hb3 (by decide)
  have HB3 := Lib.hid hb3
  have HC3 := Lib.hid hc3
  clear hs3 ht3 hb3 hc3 hsg HBL0 HTL0 HBC0
  go_wp2_with fail
  have tg4 : Touch (At g) w3 (w3.setCell ⟨g, 12, none⟩ (.pointer (some ⟨sg, 0, none⟩))) := (Touch.refl (At g) w3).setAt 12 _
  have HB4 : Hid (Blk (w3.setCell ⟨g, 12, none⟩ (.pointer (some ⟨sg, 0, none⟩))) g 109 #[.slice A1 n1 c1, .slice A2 n2 c2, .int .i64 T, .int .i64 M, .int .i64 F, .int .i64 C, .int .i64 B, .int .i64 O, .int .i64 sh, .int .i64 id, .int .i64 po, .int .i64 cl, .pointer (some ⟨sg, 0, none⟩), .pointer none, .pointer none, .slice none 0 0, .slice none 0 0, .slice none 0 0, .bool (!masked), .int .u32 draw, .bool false, .bool false, .int .i64 0]) := by
    refine Lib.hid ?_
    have := HB3.out.set_ 12 (.pointer (some ⟨sg, 0, none⟩))
    simpa using this
  have HS4 := Lib.hid (HS3.out.touch tg4 hneg (fun b hb => by cases hb))
  have HC4 := Lib.hid (HC3.out.touch tg4 (fun h => (Blk.ne_ HC3.out HB3.out (by decide)) h))
  have HT4 : Hid (Touch NoS w (w3.setCell ⟨g, 12, none⟩ (.pointer (some ⟨sg, 0, none⟩)))) := HT3.out.setNew hgw _
  obtain ⟨w4, hw4⟩ : ∃ x, x = w3.setCell ⟨g, 12, none⟩ (.pointer (some ⟨sg, 0, none⟩)) := ⟨_, rfl⟩
  rw [← hw4] at HB4 HS4 HC4 HT4 ⊢
  clear tg4 hw4 HB3 HS3 HC3 HT3 q12 f12 l3 q3
  refine (m_new M (by omega) (by omega) w4).mono ?_
  rintro e w5 ⟨mg, mcu, rfl, hmg, hmcu, hm5, ht5⟩
  have hb5 := HB4.out.touch ht5 (fun h => h)
  have hc5 := HC4.out.touch ht5 (fun h => h)
  have HS5 := Lib.hid (HS4.out.no ht5)
  have HM5 := Lib.hid hm5
  have HT5 := Lib.hid (HT4.out.trans ht5)
  have hwm : w.heap.size ≤ mg ∧ w.heap.size ≤ mcu := by
    have := HT4.out.size
    omega
  have q13 := hb5.cell 13
  have f13 := hb5.frozen 13
  have l5 := hb5.lt
  have q7 := hc5.cell 7
  simp at q13 q7
  have hnm : mg ≠ g := Blk.ne_ HM5.out.1 hb5 (by decide)
  have hnc : mcu ≠ g := Blk.ne_ HM5.out.2.2 hb5 (by decide)
  have HB5 := Lib.hid hb5
  have HC5 := Lib.hid hc5
  clear hm5 ht5 hb5 hc5 HB4 HC4 HT4 HS4 hmg hmcu
  go_wp2_with fail
  have tg6 : Touch (At g) w5 (w5.setCell ⟨g, 13, none⟩ (.pointer (some ⟨mg, 0, none⟩))) := (Touch.refl (At g) w5).setAt 13 _
  have HB6 : Hid (Blk (w5.setCell ⟨g, 13, none⟩ (.pointer (some ⟨mg, 0, none⟩))) g 109 #[.slice A1 n1 c1, .slice A2 n2 c2, .int .i64 T, .int .i64 M, .int .i64 F, .int .i64 C, .int .i64 B, .int .i64 O, .int .i64 sh, .int .i64 id, .int .i64 po, .int .i64 cl, .pointer (some ⟨sg, 0, none⟩), .pointer (some ⟨mg, 0, none⟩), .pointer none, .slice none 0 0, .slice none 0 0, .slice none 0 0, .bool (!masked), .int .u32 draw, .bool false, .bool false, .int .i64 0]) := by
    refine Lib.hid ?_
    have := HB5.out.set_ 13 (.pointer (some ⟨mg, 0, none⟩))
    simpa using this
  have HS6 := Lib.hid (HS5.out.touch tg6 hneg (fun b hb => by cases hb))
  have HM6 := Lib.hid (HM5.out.touch tg6 hnm hnc (fun b hb => by cases hb))
  have HT6 : Hid (Touch NoS w (w5.setCell ⟨g, 13, none⟩ (.pointer (some ⟨mg, 0, none⟩)))) := HT5.out.setNew hgw _
  obtain ⟨w6, hw6⟩ : ∃ x, x = w5.setCell ⟨g, 13, none⟩ (.pointer (some ⟨mg, 0, none⟩)) := ⟨_, rfl⟩
  rw [← hw6] at HB6 HS6 HM6 HT6 ⊢
  clear tg6 hw6 HB5 HS5 HM5 HC5 HT5 q13 f13 l5 q7
  refine (rg_new O (by omega) (by omega) w6).mono ?_
  rintro e w7 ⟨rg, rb, rfl, hrg, hrb, hr7, ht7⟩
  have hb7 := HB6.out.touch ht7 (fun h => h)
  have HS7 := Lib.hid (HS6.out.no ht7)
  have HM7 := Lib.hid (HM6.out.no ht7)
  have HR7 := Lib.hid hr7
  have HT7 := Lib.hid (HT6.out.trans ht7)
  have hwr : w.heap.size ≤ rg ∧ w.heap.size ≤ rb := by
    have := HT6.out.size
    omega
  have q14 := hb7.cell 14
  have f14 := hb7.frozen 14
  have l7 := hb7.lt
  simp at q14
  have HB7 := Lib.hid hb7
  clear hr7 ht7 hb7 HB6 HT6 HS6 HM6 hrg hrb
  go_wp2_with fail
  have tg8 : Touch (At g) w7 (w7.setCell ⟨g, 14, none⟩ (.pointer (some ⟨rg, 0, none⟩))) := (Touch.refl (At g) w7).setAt 14 _
  have hb8 : Blk (w7.setCell ⟨g, 14, none⟩ (.pointer (some ⟨rg, 0, none⟩))) g 109 #[.slice A1 n1 c1, .slice A2 n2 c2, .int .i64 T, .int .i64 M, .int .i64 F, .int .i64 C, .int .i64 B, .int .i64 O, .int .i64 sh, .int .i64 id, .int .i64 po, .int .i64 cl, .pointer (some ⟨sg, 0, none⟩), .pointer (some ⟨mg, 0, none⟩), .pointer (some ⟨rg, 0, none⟩), .slice none 0 0, .slice none 0 0, .slice none 0 0, .bool (!masked), .int .u32 draw, .bool false, .bool false, .int .i64 0] := by
    have := HB7.out.set_ 14 (.pointer (some ⟨rg, 0, none⟩))
    simpa using this
  obtain ⟨d1, d2, p1, p2⟩ := HR7.out.blk
  have hr8 := HR7.out.touch tg8 (fun h => Blk.ne_ p1 HB7.out (by decide) h) (fun h => Blk.ne_ p2 HB7.out (by decide) h)
  have hs8 := HS7.out.touch tg8 hneg (fun b hb => by cases hb)
  have hm8 := HM7.out.touch tg8 hnm hnc (fun b hb => by cases hb)
  have hap : ∀ u, Apart (.slice none 0 0) u := fun u b hb => by cases hb
  refine bodyPost_ret (v := .tuple #[.pointer (some ⟨g, 0, none⟩), .int .i64 0]) (by simp [results, Tryz.results32, go_sem]) rfl ?_
  refine ⟨g, ⟨.slice A1 n1 c1, .slice A2 n2 c2, T, M, F, C, B, O, sh, id, po, cl, sg, mg, mcu, rg, rb, !masked⟩, rfl, rfl, rfl, rfl, rfl, ⟨⟨hb8, ?_, Win.nil_ _ _ _, Win.nil_ _ _ _, Win.nil_ _ _ _, fun x hx => (by cases hx), fun x hx => (by cases hx), fun h => (by cases h)⟩, ?_, ?_, Mc.new_good M (by omega) (by omega), hap _, hap _, fun h => (by cases h), hap _, fun h => (by cases h), hap _⟩, ?_, HT7.out.setNew hgw _⟩
  · exact hr8
  · have := hs8.lower (Nat.zero_le _)
    simpa [most16, Lg.new, LV.nil] using this
  · exact hm8.lower (Nat.zero_le _)
  · intro b hb
    unfold LF LV.nil at hb
    simp only at hb
    rcases hb with rfl | rfl | rfl | rfl | rfl | rfl | h | h | h | h | h
    · exact hgw
    · exact hgs
    · exact hwm.1
    · exact hwm.2
    · exact hwr.1
    · exact hwr.2
    all_goals cases h
end Go.Proofs.YtlnabpoohnphiaaGreat
/- leg: one side as the laws see it; awake. -/
namespace Go.Proofs.YtlnabpoohnphiaaGreat
open Go.RowKit
set_option linter.unusedSimpArgs false
set_option linter.unusedVariables false

/-- A side made since w0; nothing older was touched. -/
def LgAt (w0 w : World) (g : Nat) (k : Lk) (L : Lg) : Prop := ∃ V, IsL w g k L V ∧ (∀ b, LF g k V b → w0.heap.size ≤ b) ∧ Touch NoS w0 w
/-- What others have is as it was. -/
structure Keep (w w' : World) : Prop where
  blk : ∀ b t cs, Blk w b t cs → Outer t → Blk w' b t cs
  own : ∀ base e size n v xs, w.ownsRow base e size v n xs → Outer e → w'.ownsRow base e size v n xs
  size : w.heap.size ≤ w'.heap.size
theorem Keep.refl (w : World) : Keep w w := ⟨fun _ _ _ h _ => h, fun _ _ _ _ _ _ h _ => h, Nat.le_refl _⟩
theorem Keep.trans {w w1 w2 : World} (h : Keep w w1) (k : Keep w1 w2) : Keep w w2 := ⟨fun b t cs hb ht => k.blk b t cs (h.blk b t cs hb ht) ht, fun base e size n v xs ho he => k.own _ _ _ _ _ _ (h.own _ _ _ _ _ _ ho he) he, Nat.le_trans h.size k.size⟩
theorem Keep.no {w w' : World} (t : Touch NoS w w') : Keep w w' := ⟨fun _ _ _ h _ => h.touch t (fun h => h), fun _ _ _ _ _ _ h _ => own_no h t, t.size⟩
theorem LAct.keeps {w w' : World} {g : Nat} {k : Lk} {L L' : Lg} {V : LV} (a : LAct w w' g k V L') (h : IsL w g k L V) : Keep w w' :=
  ⟨fun b t cs hb ht => a.keep h hb ht, fun base e size n v xs ho he => a.own h ho he, by obtain ⟨_, _, _, t⟩ := a; exact t.size⟩
section
variable {w0 w w' : World} {g : Nat} {k : Lk} {L : Lg}
theorem LgAt.act {L' : Lg} {V : LV} (h1 : ∀ b, LF g k V b → w0.heap.size ≤ b) (h2 : Touch NoS w0 w) (a : LAct w w' g k V L') : LgAt w0 w' g k L' := by
  obtain ⟨V', i, l, t⟩ := a
  refine ⟨V', i, fun b hb => ?_, h2.then_new t fun i hi => .inl (h1 i hi)⟩
  rcases LF_loc l hb with h | h
  · exact h1 b h
  · have := h2.size
    omega
theorem LgAt.no (h : LgAt w0 w g k L) (t : Touch NoS w w') : LgAt w0 w' g k L := by
  obtain ⟨V, i, h1, h2⟩ := h
  exact ⟨V, i.no t, h1, h2.trans t⟩
theorem LgAt.old (h : LgAt w0 w g k L) : Touch NoS w0 w := by
  obtain ⟨V, i, h1, h2⟩ := h
  exact h2
theorem LgAt.ring (h : LgAt w0 w g k L) : L.o.ring.length ≤ k.out := by
  obtain ⟨V, i, h1, h2⟩ := h
  exact i.out.ring.le.1
theorem lg_free (h : LgAt w0 w g k L) : Calls Tryz.prog 69 #[.pointer (some ⟨g, 0, none⟩)] w fun e w' => e = .returned (.bool L.free) ∧ w = w' := by
  obtain ⟨V, i, h1, h2⟩ := h
  exact l_free i
theorem lg_sent (h : LgAt w0 w g k L) : Calls Tryz.prog 43 #[.pointer (some ⟨g, 0, none⟩)] w fun e w' => e = .returned (.bool L.sent) ∧ w = w' := by
  obtain ⟨V, i, h1, h2⟩ := h
  exact l_sent i
theorem lg_got (h : LgAt w0 w g k L) : Calls Tryz.prog 44 #[.pointer (some ⟨g, 0, none⟩)] w fun e w' => e = .returned (.bool L.got) ∧ w = w' := by
  obtain ⟨V, i, h1, h2⟩ := h
  exact l_got i
theorem lg_wrong (h : LgAt w0 w g k L) : Calls Tryz.prog 45 #[.pointer (some ⟨g, 0, none⟩)] w fun e w' => e = .returned (.int .i64 L.wrong) ∧ w = w' := by
  obtain ⟨V, i, h1, h2⟩ := h
  exact l_wrong i
theorem lg_quiet (h : LgAt w0 w g k L) : Calls Tryz.prog 72 #[.pointer (some ⟨g, 0, none⟩)] w fun e w' => e = .returned (.bool L.quiet) ∧ w = w' := by
  obtain ⟨V, i, h1, h2⟩ := h
  exact l_quiet i
theorem lg_peek (h : LgAt w0 w g k L) (n : Int) : Calls Tryz.prog 37 #[.pointer (some ⟨g, 0, none⟩), .int .i64 n] w fun e w' =>
    ∃ g2, e = .returned (.slice (some ⟨g2, 0, none⟩) (pk n L.o.ring.length) (pk n L.o.ring.length)) ∧ w.heap.size ≤ g2 ∧ Blk w' g2 5 (u8s (L.o.ring.take (pk n L.o.ring.length))).toArray ∧ Touch NoS w w' := by
  obtain ⟨V, i, h1, h2⟩ := h
  exact l_peek i n
theorem lg_take (h : LgAt w0 w g k L) (n : Int) : Calls Tryz.prog 41 #[.pointer (some ⟨g, 0, none⟩), .int .i64 n] w fun e w' =>
    ∃ g2, e = .returned (.slice (some ⟨g2, 0, none⟩) (pk n L.o.ring.length) (pk n L.o.ring.length)) ∧ w.heap.size ≤ g2 ∧ Blk w' g2 5 (u8s (L.o.ring.take (pk n L.o.ring.length))).toArray ∧ LgAt w0 w' g k (L.take k n) ∧ Keep w w' := by
  obtain ⟨V, i, h1, h2⟩ := h
  refine (l_take i n).mono ?_
  rintro e w' ⟨g2, rfl, q1, q2, ⟨V', q3, q4⟩, q5⟩
  exact ⟨g2, rfl, q1, q2, LgAt.act h1 h2 ⟨V', q3, q4, q5⟩, LAct.keeps ⟨V', q3, q4, q5⟩ i⟩
theorem lg_send (h : LgAt w0 w g k L) (op code : Int) (s : ByteArray) (hs : s.size ≤ maxLen) (hk : k.message ≤ 65536) (hf1 : 1 ≤ k.frame) (hf2 : k.frame ≤ 65536) :
    Calls Tryz.prog 68 #[.pointer (some ⟨g, 0, none⟩), .agg #[.int .i64 op, .int .i64 code, .string s]] w fun e w' => e = .returned (.bool (L.send k op s).2) ∧ LgAt w0 w' g k (L.send k op s).1 ∧ Keep w w' := by
  obtain ⟨V, i, h1, h2⟩ := h
  refine (l_send i op code s hs hk hf1 hf2).mono ?_
  rintro e w' ⟨rfl, a⟩
  exact ⟨rfl, LgAt.act h1 h2 a, a.keeps i⟩
theorem lg_ping (h : LgAt w0 w g k L) (d : ByteArray) (hd : d.size ≤ maxLen) (hn : L.o.ctl.length ≤ 1000000) :
    Calls Tryz.prog 73 #[.pointer (some ⟨g, 0, none⟩), .string d] w fun e w' => e = .returned (.bool (L.ping k d).2) ∧ LgAt w0 w' g k (L.ping k d).1 ∧ Keep w w' := by
  obtain ⟨V, i, h1, h2⟩ := h
  refine (l_ping i d hd hn).mono ?_
  rintro e w' ⟨rfl, a⟩
  exact ⟨rfl, LgAt.act h1 h2 a, a.keeps i⟩
theorem lg_close (h : LgAt w0 w g k L) (code : Int) (s : ByteArray) (hd : s.size ≤ maxLen) (hn : L.o.ctl.length ≤ 1000000) :
    Calls Tryz.prog 70 #[.pointer (some ⟨g, 0, none⟩), .int .i64 code, .string s] w fun e w' => e = .returned (.bool (L.close k code s).2) ∧ LgAt w0 w' g k (L.close k code s).1 ∧ Keep w w' := by
  obtain ⟨V, i, h1, h2⟩ := h
  refine (l_close i code s hd hn).mono ?_
  rintro e w' ⟨rfl, a⟩
  exact ⟨rfl, LgAt.act h1 h2 a, a.keeps i⟩
/-- What always holds of a side between acts. -/
structure Lg.ok (k : Lk) (L : Lg) : Prop where
  bytes : bytesIn L.part
  serr : L.serr ≠ 0 → L.down = true
theorem l_feed {V : LV} (i : IsL w g k L V) (hk : k.message ≤ 65536) (hok : L.ok k) (b : List Int) (A2 : Option Addr) (n cap : Nat) (hn : b.length = n) (hr : Rd w A2 (u8s b)) (hin : bytesIn b) (hc : L.o.ctl.length + L.part.length + n ≤ 900000) :
    Calls Tryz.prog 59 #[.pointer (some ⟨g, 0, none⟩), .slice A2 n cap] w fun e w' => ∃ A c, e = .returned (.slice A (L.feed k b).2.length c) ∧ w'.ownsRow w.heap.size 37 3 (.slice A (L.feed k b).2.length c) (L.feed k b).2.length (evCells (L.feed k b).2) ∧ LAct w w' g k V (L.feed k b).1 := by
  cases hd : L.down with
  | true =>
    have hf : L.feed k b = (L, []) := by unfold Lg.feed; rw [if_pos hd]
    rw [hf]
    refine (l_feed_no i A2 n cap hd).mono ?_
    rintro e w' ⟨rfl, rfl⟩
    exact ⟨none, 0, rfl, own_nil _ _ _ _, LAct.refl i (Touch.refl _ _)⟩
  | false =>
    have hse : L.serr = 0 := by
      by_cases h : L.serr = 0
      · exact h
      · have := hok.serr h
        rw [hd] at this
        cases this
    refine l_feed_go i hk b A2 n cap hn hr (fun x hx => ?_) (by omega) hc hse hd
    rcases List.mem_append.1 hx with hx | hx
    · exact hok.bytes x hx
    · exact hin x hx
theorem lg_feed (h : LgAt w0 w g k L) (hk : k.message ≤ 65536) (hok : L.ok k) (b : List Int) (A2 : Option Addr) (n cap : Nat) (hn : b.length = n) (hr : Rd w A2 (u8s b)) (hin : bytesIn b) (hc : L.o.ctl.length + L.part.length + n ≤ 900000) :
    Calls Tryz.prog 59 #[.pointer (some ⟨g, 0, none⟩), .slice A2 n cap] w fun e w' => ∃ A c, e = .returned (.slice A (L.feed k b).2.length c) ∧ w'.ownsRow w.heap.size 37 3 (.slice A (L.feed k b).2.length c) (L.feed k b).2.length (evCells (L.feed k b).2) ∧ LgAt w0 w' g k (L.feed k b).1 ∧ Keep w w' := by
  obtain ⟨V, i, h1, h2⟩ := h
  refine (l_feed i hk hok b A2 n cap hn hr hin hc).mono ?_
  rintro e w' ⟨A, c, rfl, ho, a⟩
  exact ⟨A, c, rfl, ho, LgAt.act h1 h2 a, a.keeps i⟩
end
/-- A side of the laws' configuration. -/
theorem lg_new (b M F O : Nat) (h1 : 1 ≤ M) (h2 : M ≤ 300) (h3 : 1 ≤ F) (h4 : F ≤ 65536) (h5 : 1 ≤ O) (h6 : O ≤ 65536) (masked : Bool) (draw : Int) (w : World) (hb : Blk w b 101 #[.string ⟨#[47]⟩, .string ⟨#[]⟩, .string ⟨#[120]⟩]) :
    Calls Tryz.prog 32 #[.agg (cfgV b M F O), .bool masked, .int .u32 draw] w fun e w' =>
      ∃ g k, e = .returned (.tuple #[.pointer (some ⟨g, 0, none⟩), .int .i64 0]) ∧ k.message = M ∧ k.frame = F ∧ k.out = O ∧ k.masks = !masked ∧ LgAt w w' g k (Lg.new M draw) := by
  refine (l_new (some ⟨b, 0, none⟩) none 1 1 0 0 4 M F 3 300 O 5 9 3 4 masked draw w h1 (by omega) h5 h6 (fun W t => r_check b M F O h1 h2 h3 h4 h5 h6 W (hb.touch t (fun h => h)))).mono ?_
  rintro e w' ⟨g, k, rfl, q1, q2, q3, q4, q5, q6, q7⟩
  exact ⟨g, k, rfl, q1, q2, q3, q4, LV.nil, q5, q6, q7⟩
def aw16a : Lg := ⟨[], 100, Mc.new 100, ⟨[136, 2, 3, 234], [], [], [], 7⟩, true, false, 100⟩
def aw16b : Lg := ⟨[], 100, Mc.new 100, ⟨[], [], [], [], 7⟩, true, false, 100⟩
theorem aw16_feed (k : Lk) (h1 : k.message = 100) (h3 : k.out = 100) (h4 : k.masks = false) : (Lg.new 100 7).feed k [129, 0] = (aw16a, []) := by
  obtain ⟨_, _, _, _, _, _, _, _, _, _, _, _, _, _, _, _, _, _⟩ := k
  simp only at h1 h3 h4
  subst h1 h3 h4
  rfl
theorem aw16_take (k : Lk) (h3 : k.out = 100) (h4 : k.masks = false) : aw16a.take k 100 = aw16b := by
  obtain ⟨_, _, _, _, _, _, _, _, _, _, _, _, _, _, _, _, _, _⟩ := k
  simp only at h3 h4
  subst h3 h4
  rfl
end Go.Proofs.YtlnabpoohnphiaaGreat
/- leg: what always holds of a side; plain Lean. -/
namespace Go.Proofs.YtlnabpoohnphiaaGreat
open Go.RowKit
set_option linter.unusedSimpArgs false
set_option linter.unusedVariables false

structure Lg.okb (k : Lk) (n : Nat) (L : Lg) : Prop where
  ok : L.ok k
  part : (L.part.length : Int) ≤ most16 k + 13
  most : L.m.most = k.message
  ctl : L.o.ctl.length ≤ n
theorem Lg.okb.mono {k : Lk} {n m : Nat} {L : Lg} (h : L.okb k n) (hm : n ≤ m) : L.okb k m := ⟨h.ok, h.part, h.most, by have := h.ctl; omega⟩
theorem Lg.new_okb (k : Lk) (draw : Int) (n : Nat) : (Lg.new k.message draw).okb k n :=
  ⟨⟨fun x hx => (by cases hx), fun h => absurd rfl h⟩, by show (0 : Int) ≤ _; unfold most16; omega, rfl, Nat.zero_le _⟩
/-- The same stream, the same machine, as much down. -/
structure Lg.like (L L' : Lg) : Prop where
  part : L'.part = L.part
  serr : L'.serr = L.serr
  m : L'.m = L.m
  down : L'.down = L.down
theorem Lg.like.okb {k : Lk} {n m : Nat} {L L' : Lg} (h : L.like L') (hb : L.okb k n) (hc : L'.o.ctl.length ≤ m) : L'.okb k m :=
  ⟨⟨by rw [h.part]; exact hb.ok.bytes, by rw [h.serr, h.down]; exact hb.ok.serr⟩, by rw [h.part]; exact hb.part, by rw [h.m]; exact hb.most, hc⟩
theorem Lg.send_like (k : Lk) (L : Lg) (op : Int) (s : ByteArray) : L.like (L.send k op s).1 := by
  unfold Lg.send
  split
  · exact ⟨rfl, rfl, rfl, rfl⟩
  · exact ⟨rfl, rfl, rfl, rfl⟩
theorem Lg.send_ctl (k : Lk) (L : Lg) (op : Int) (s : ByteArray) : (L.send k op s).1.o.ctl.length ≤ L.o.ctl.length := by
  unfold Lg.send
  split
  · exact Ou.move_ctl _ _ _
  · exact Nat.le_refl _
theorem Lg.ping_like (k : Lk) (L : Lg) (d : ByteArray) : L.like (L.ping k d).1 := by
  unfold Lg.ping
  split
  · exact ⟨rfl, rfl, rfl, rfl⟩
  · exact ⟨rfl, rfl, rfl, rfl⟩
theorem Lg.ping_ctl (k : Lk) (L : Lg) (d : ByteArray) : (L.ping k d).1.o.ctl.length ≤ L.o.ctl.length + 1 := by
  unfold Lg.ping
  split
  · exact Nat.le_succ _
  · exact Lg.ctl_ctl _ _ _
theorem Lg.close_like (k : Lk) (L : Lg) (c : Int) (s : ByteArray) : L.like (L.close k c s).1 := by
  unfold Lg.close
  split
  · exact ⟨rfl, rfl, rfl, rfl⟩
  · exact ⟨rfl, rfl, rfl, rfl⟩
theorem Lg.take_like (k : Lk) (L : Lg) (n : Int) : L.like (L.take k n) := ⟨rfl, rfl, rfl, rfl⟩
theorem Lg.take_ctl (k : Lk) (L : Lg) (n : Int) : (L.take k n).o.ctl.length ≤ L.o.ctl.length := Ou.move_ctl _ _ _
theorem lg_mtake_most (c : Mc) (f : Fr) : (mtake c f).1.most = c.most := by
  have hgo : ∀ c' : Mc, c'.most = c.most → (mgo c' f).1.most = c.most := by
    intro c' hc
    unfold mgo
    repeat' split
    all_goals exact hc
  unfold mtake
  split
  · rfl
  split
  · rfl
  split
  · rfl
  split
  · unfold mend
    split <;> rfl
  split
  · rfl
  · unfold mdata
    split
    · split
      · rfl
      · exact hgo c rfl
    · split
      · exact hgo _ rfl
      · rfl
theorem Lg.pong_like (k : Lk) (L : Lg) (d : ByteArray) : L.like (L.pong k d) := by
  unfold Lg.pong
  split
  · exact ⟨rfl, rfl, rfl, rfl⟩
  · exact ⟨rfl, rfl, rfl, rfl⟩
theorem Lg.close_same (k : Lk) (L : Lg) (c : Int) (s : ByteArray) : (L.close k c s).1.got = L.got ∧ (L.close k c s).1.wrong = L.wrong := by
  unfold Lg.close
  split
  · exact ⟨rfl, rfl⟩
  · exact ⟨rfl, rfl⟩
theorem Lg.fail_down (k : Lk) (L : Lg) (e : Int) (he : e ≠ 0) : (L.fail k e).down = true := by
  have := (Lg.close_same k ({ L with wrong := e } : Lg) (code11 e) ⟨#[]⟩).2
  unfold Lg.fail Lg.down
  rw [this]
  simp [he]
theorem Lg.fail_keeps (k : Lk) (L : Lg) (e : Int) : (L.fail k e).part = L.part ∧ (L.fail k e).serr = L.serr ∧ (L.fail k e).m = L.m := by
  have := Lg.close_like k ({ L with wrong := e } : Lg) (code11 e) ⟨#[]⟩
  exact ⟨this.part, this.serr, this.m⟩
theorem Lg.takeF_keeps (k : Lk) (L : Lg) (f : Fr) : (L.takeF k f).1.part = L.part ∧ (L.takeF k f).1.serr = L.serr ∧ (L.takeF k f).1.m = (mtake L.m f).1 := by
  unfold Lg.takeF
  split
  · exact Lg.fail_keeps k _ _
  split
  · have := Lg.pong_like k ({ L with m := (mtake L.m f).1 } : Lg) (mtake L.m f).2.1.data
    exact ⟨this.part, this.serr, this.m⟩
  split
  · have := Lg.close_like k ({ L with m := (mtake L.m f).1, got := true } : Lg) (across11 (mtake L.m f).2.1.code) ⟨#[]⟩
    exact ⟨this.part, this.serr, this.m⟩
  · exact ⟨rfl, rfl, rfl⟩
theorem feedFold_keeps (k : Lk) : ∀ (fs : List Fr) (s : Lg × List Ev × Bool), (s.2.2 = true → s.1.down = true) →
    (fs.foldl (feedStep k) s).1.part = s.1.part ∧ (fs.foldl (feedStep k) s).1.serr = s.1.serr ∧ (fs.foldl (feedStep k) s).1.m.most = s.1.m.most ∧ (fs.foldl (feedStep k) s).1.o.ctl.length ≤ s.1.o.ctl.length + fs.length ∧ ((fs.foldl (feedStep k) s).2.2 = true → (fs.foldl (feedStep k) s).1.down = true) := by
  intro fs
  induction fs with
  | nil => intro s h; exact ⟨rfl, rfl, rfl, Nat.le_refl _, h⟩
  | cons f fs ih =>
    intro s h
    rw [List.foldl_cons]
    by_cases hs : s.2.2 = true
    · rw [show feedStep k s f = s from by unfold feedStep; rw [if_pos hs]]
      obtain ⟨h1, h2, h3, h4, h5⟩ := ih s h
      exact ⟨h1, h2, h3, by rw [List.length_cons]; omega, h5⟩
    · obtain ⟨h1, h2, h3, h4, h5⟩ := ih (feedStep k s f) (by unfold feedStep; rw [if_neg hs]; exact fun h => h)
      have e : (feedStep k s f).1 = (s.1.takeF k f).1 := by unfold feedStep; rw [if_neg hs]
      rw [e] at h1 h2 h3 h4
      obtain ⟨k1, k2, k3⟩ := Lg.takeF_keeps k s.1 f
      have k4 := Lg.takeF_ctl k s.1 f
      refine ⟨h1.trans k1, h2.trans k2, h3.trans (by rw [k3, lg_mtake_most]), by rw [List.length_cons]; omega, h5⟩
theorem Lg.feed_okb (k : Lk) (n : Nat) (L : Lg) (h : L.okb k n) (b : List Int) (hb : bytesIn b) (hl : L.part.length + b.length ≤ 1000000) : (L.feed k b).1.okb k (n + L.part.length + b.length + 1) := by
  unfold Lg.feed
  by_cases hd : L.down = true
  · rw [if_pos hd]
    exact h.mono (by omega)
  rw [if_neg hd]
  have hin : bytesIn (L.part ++ b) := fun x hx => by
    rcases List.mem_append.1 hx with hx | hx
    · exact h.ok.bytes x hx
    · exact hb x hx
  have hml : (L.part ++ b).length ≤ maxLen := by rw [List.length_append]; unfold maxLen; omega
  obtain ⟨-, sf2, sf3, -⟩ := scan_facts (!k.masks) (most16 k) (by unfold most16; omega) (L.part ++ b).length (L.part ++ b) (Nat.le_refl _) hin hml
  obtain ⟨g1, -, g3⟩ := scan_in (!k.masks) (most16 k) (L.part ++ b).length (L.part ++ b) (Nat.le_refl _) hin hml
  obtain ⟨fs, rest, e1, hsc⟩ : ∃ fs rest e1, scan (!k.masks) (most16 k) (L.part ++ b) = (fs, rest, e1) := ⟨_, _, _, rfl⟩
  have hfd : L.fed k b = { L with part := rest, serr := e1 } := by unfold Lg.fed; rw [hsc]
  rw [hfd]
  rw [hsc] at sf2 sf3 g1 g3 ⊢
  simp only at sf2 sf3 g1 g3 ⊢
  rw [List.length_append] at g3
  obtain ⟨k1, k2, k3, k4, k5⟩ := feedFold_keeps k fs ({ L with part := rest, serr := e1 }, [], false) (fun h => by cases h)
  have hpl : (rest.length : Int) ≤ most16 k + 13 := by
    by_cases he : e1 = 0
    · exact (sf2 he).2
    · rw [sf3 he]
      show (0 : Int) ≤ _
      unfold most16
      omega
  have hc := h.ctl
  change (feedFs k { L with part := rest, serr := e1 } fs).1.part = rest at k1
  change (feedFs k { L with part := rest, serr := e1 } fs).1.serr = e1 at k2
  change (feedFs k { L with part := rest, serr := e1 } fs).1.m.most = L.m.most at k3
  change (feedFs k { L with part := rest, serr := e1 } fs).1.o.ctl.length ≤ L.o.ctl.length + fs.length at k4
  change (feedFs k { L with part := rest, serr := e1 } fs).2.2 = true → (feedFs k { L with part := rest, serr := e1 } fs).1.down = true at k5
  generalize feedFs k { L with part := rest, serr := e1 } fs = r at k1 k2 k3 k4 k5
  by_cases hr : r.2.2 = true
  · rw [if_pos hr]
    exact ⟨⟨by show bytesIn r.1.part; rw [k1]; exact g1, fun _ => k5 hr⟩, by show (r.1.part.length : Int) ≤ _; rw [k1]; exact hpl, by show r.1.m.most = _; rw [k3]; exact h.most, by show r.1.o.ctl.length ≤ _; omega⟩
  rw [if_neg hr]
  by_cases he : e1 = 0
  · rw [if_neg (by rw [he]; simp)]
    exact ⟨⟨by show bytesIn r.1.part; rw [k1]; exact g1, fun h => absurd (k2.trans he) h⟩, by show (r.1.part.length : Int) ≤ _; rw [k1]; exact hpl, by show r.1.m.most = _; rw [k3]; exact h.most, by show r.1.o.ctl.length ≤ _; omega⟩
  · rw [if_pos he]
    obtain ⟨f1, f2, f3⟩ := Lg.fail_keeps k r.1 e1
    have f4 := Lg.fail_ctl k r.1 e1
    exact ⟨⟨by show bytesIn (r.1.fail k e1).part; rw [f1, k1]; exact g1, fun _ => Lg.fail_down k r.1 e1 he⟩, by show ((r.1.fail k e1).part.length : Int) ≤ _; rw [f1, k1]; exact hpl, by show (r.1.fail k e1).m.most = _; rw [f3, k3]; exact h.most, by show (r.1.fail k e1).o.ctl.length ≤ _; omega⟩
end Go.Proofs.YtlnabpoohnphiaaGreat
