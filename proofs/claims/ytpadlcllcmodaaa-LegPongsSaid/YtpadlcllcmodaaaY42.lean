/- route.Check on the laws' configuration. | route.Check on the laws' configuration; the laws' configuration. -/
import Derived.Test.YtpadlcllcmodaaaY02
import Derived.Test.YtpadlcllcmodaaaY03
import Derived.Laws.Externs
/- route.Check on the laws' configuration. -/
namespace Go.Proofs.Ytpadlcllcmodaaa
open Go.RowKit
set_option linter.unusedSimpArgs false
set_option linter.unusedVariables false

set_option maxHeartbeats 3200000 in
set_option maxRecDepth 100000 in
theorem r_in (n a b : Int) (h1 : a ≤ n) (h2 : n ≤ b) (w : World) : Calls Try.prog 43 #[.int .i64 n, .int .i64 a, .int .i64 b] w fun e w' => e = .returned (.bool true) ∧ w = w' := by
  go_enter Try.func43, Try.ntmps43
  go_wp2
  go_ret
  exact ⟨rfl, rfl⟩
set_option maxHeartbeats 3200000 in
set_option maxRecDepth 100000 in
theorem r_visible_1 (w : World) : Calls Try.prog 60 #[.string ⟨#[47]⟩] w fun e w' => e = .returned (.bool true) ∧ w = w' := by
  go_enter Try.func60, Try.ntmps60
  go_wp2_with fail
  go_loopw [6] (fun i wr => ∃ k : Nat, k ≤ 1 ∧ i = .int .i64 k ∧ w = wr) (fun i _ => 1 - (intOf i).toNat)
  case atStart => exact ⟨0, by omega, rfl, rfl⟩
  case round =>
    obtain ⟨k, hk, rfl, rfl⟩ := hrel
    by_cases hlt : k < 1
    · obtain rfl : k = 0 := by omega
      go_wp2
      go_roundw
      · exact ⟨1, by omega, by go_num, by first | trivial | rfl⟩
      · simp [intOf]
    · obtain rfl : k = 1 := by omega
      go_wp2
      go_ret
      exact ⟨rfl, rfl⟩
set_option maxHeartbeats 3200000 in
set_option maxRecDepth 100000 in
theorem r_visible_2 (w : World) : Calls Try.prog 60 #[.string ⟨#[120]⟩] w fun e w' => e = .returned (.bool true) ∧ w = w' := by
  go_enter Try.func60, Try.ntmps60
  go_wp2_with fail
  go_loopw [6] (fun i wr => ∃ k : Nat, k ≤ 1 ∧ i = .int .i64 k ∧ w = wr) (fun i _ => 1 - (intOf i).toNat)
  case atStart => exact ⟨0, by omega, rfl, rfl⟩
  case round =>
    obtain ⟨k, hk, rfl, rfl⟩ := hrel
    by_cases hlt : k < 1
    · obtain rfl : k = 0 := by omega
      go_wp2
      go_roundw
      · exact ⟨1, by omega, by go_num, by first | trivial | rfl⟩
      · simp [intOf]
    · obtain rfl : k = 1 := by omega
      go_wp2
      go_ret
      exact ⟨rfl, rfl⟩
theorem ext_idx (w : World) : (callFunc 106 #[.string ⟨#[47]⟩, .int .u8 63]).run Try.prog w = .ok (.value (.int .i64 (-1))) w := by
  rw [run_callFunc_extern Try.func106 (by kernel_rfl) (by kernel_rfl) (by kernel_rfl) (e := Extern.BytealgIndexByte.indexByte) (by kernel_rfl), run_indexByte_string]
  rfl
set_option maxHeartbeats 3200000 in
set_option maxRecDepth 100000 in
theorem s_ibyte (w : World) : Calls Try.prog 99 #[.string ⟨#[47]⟩, .int .u8 63] w fun e w' => e = .returned (.int .i64 (-1)) ∧ w = w' := by
  have hx := fun W => ext_idx W
  go_enter Try.func99, Try.ntmps99
  go_wp2_with fail
  go_ret
  exact ⟨rfl, rfl⟩
set_option maxHeartbeats 3200000 in
set_option maxRecDepth 100000 in
theorem s_idx (w : World) : Calls Try.prog 98 #[.string ⟨#[47]⟩, .string ⟨#[63]⟩] w fun e w' => e = .returned (.int .i64 (-1)) ∧ w = w' := by
  have HX := Lib.hid (fun W => s_ibyte W)
  go_enter Try.func98, Try.ntmps98
  go_wp2_with fail
  refine (HX.out _).mono ?_
  rintro e w1 ⟨rfl, rfl⟩
  go_wp2_with fail
  go_ret
  exact ⟨rfl, rfl⟩
set_option maxHeartbeats 3200000 in
set_option maxRecDepth 100000 in
theorem s_idx2 (w : World) : Calls Try.prog 84 #[.string ⟨#[47]⟩, .string ⟨#[63]⟩] w fun e w' => e = .returned (.int .i64 (-1)) ∧ w = w' := by
  have HX := Lib.hid (fun W => s_idx W)
  go_enter Try.func84, Try.ntmps84
  go_wp2_with fail
  refine (HX.out _).mono ?_
  rintro e w1 ⟨rfl, rfl⟩
  go_wp2_with fail
  go_ret
  exact ⟨rfl, rfl⟩
set_option maxHeartbeats 3200000 in
set_option maxRecDepth 100000 in
theorem s_has (w : World) : Calls Try.prog 61 #[.string ⟨#[47]⟩, .string ⟨#[63]⟩] w fun e w' => e = .returned (.bool false) ∧ w = w' := by
  have HX := Lib.hid (fun W => s_idx2 W)
  go_enter Try.func61, Try.ntmps61
  go_wp2_with fail
  refine (HX.out _).mono ?_
  rintro e w1 ⟨rfl, rfl⟩
  go_wp2_with fail
  go_ret
  exact ⟨rfl, rfl⟩
set_option maxHeartbeats 3200000 in
set_option maxRecDepth 100000 in
theorem r_right (w : World) : Calls Try.prog 44 #[.agg #[.string ⟨#[47]⟩, .string ⟨#[]⟩, .string ⟨#[120]⟩]] w fun e w' => e = .returned (.bool true) ∧ Touch NoS w w' := by
  have H1 := Lib.hid (fun W => r_visible_1 W)
  have H2 := Lib.hid (fun W => r_visible_2 W)
  have H3 := Lib.hid (fun W => s_has W)
  go_enter Try.func44, Try.ntmps44
  go_wp2_with fail
  refine (H1.out _).mono ?_
  rintro e w1 ⟨rfl, hw⟩
  have HT : Hid (Touch NoS w w1) := by rw [← hw]; exact (Touch.refl _ _).alloc _
  have hb : Blk w1 w.heap.size 63 #[.string ⟨#[47]⟩, .string ⟨#[]⟩, .string ⟨#[120]⟩] := by rw [← hw]; exact Blk.new _ _ _
  have c0 := hb.cell 0
  have c1 := hb.cell 1
  have c2 := hb.cell 2
  have cl := hb.lt
  simp at c0 c1 c2
  clear hw hb
  go_wp2_with fail
  refine (H3.out _).mono ?_
  rintro e w2 ⟨rfl, rfl⟩
  go_wp2_with fail
  refine (H2.out _).mono ?_
  rintro e w2 ⟨rfl, rfl⟩
  go_wp2_with fail
  go_ret
  exact ⟨rfl, HT.out⟩
set_option maxHeartbeats 3200000 in
set_option maxRecDepth 100000 in
theorem r_index0 (A : Option Addr) (c : Nat) (w : World) : Calls Try.prog 63 #[.slice A 0 c, .agg #[.string ⟨#[47]⟩, .string ⟨#[]⟩, .string ⟨#[120]⟩]] w fun e w' => e = .returned (.int .i64 (-1)) ∧ Touch NoS w w' := by
  go_enter Try.func63, Try.ntmps63
  go_wp2_with fail
  go_loopw [8] (fun i wr => i = .int .i64 0 ∧ Touch NoS w wr) (fun i _ => 1)
  case atStart => exact ⟨rfl, (Touch.refl _ _).alloc _⟩
  case round =>
    obtain ⟨rfl, ht⟩ := hrel
    go_wp2_with fail
    go_ret
    exact ⟨rfl, ht⟩
set_option maxHeartbeats 3200000 in
set_option maxRecDepth 100000 in
theorem r_contains0 (A : Option Addr) (c : Nat) (w : World) : Calls Try.prog 45 #[.slice A 0 c, .agg #[.string ⟨#[47]⟩, .string ⟨#[]⟩, .string ⟨#[120]⟩]] w fun e w' => e = .returned (.bool false) ∧ Touch NoS w w' := by
  have HX := Lib.hid (fun W => r_index0 A c W)
  go_enter Try.func45, Try.ntmps45
  go_wp2_with fail
  refine (HX.out _).mono ?_
  rintro e w1 ⟨rfl, ht⟩
  have HT := Lib.hid (((Touch.refl NoS w).alloc (.cells #[.string ⟨#[47]⟩, .string ⟨#[]⟩, .string ⟨#[120]⟩] 63)).trans ht)
  clear ht
  go_wp2_with fail
  go_ret
  exact ⟨rfl, HT.out⟩
end Go.Proofs.Ytpadlcllcmodaaa
/- route.Check on the laws' configuration; the laws' configuration. -/
namespace Go.Proofs.Ytpadlcllcmodaaa
open Go.RowKit
set_option linter.unusedSimpArgs false
set_option linter.unusedVariables false

def cfgV (b : Nat) (M F O : Nat) : Array Value := #[.slice (some ⟨b, 0, none⟩) 1 1, .slice none 0 0, .int .i64 4, .int .i64 M, .int .i64 F, .int .i64 3, .int .i64 300, .int .i64 O, .int .i64 5, .int .i64 9, .int .i64 3, .int .i64 4]
set_option maxHeartbeats 12800000 in
set_option maxRecDepth 100000 in
theorem r_check (b M F O : Nat) (h1 : 1 ≤ M) (h2 : M ≤ 300) (h3 : 1 ≤ F) (h4 : F ≤ 65536) (h5 : 1 ≤ O) (h6 : O ≤ 65536) (w : World) (hb : Blk w b 63 #[.string ⟨#[47]⟩, .string ⟨#[]⟩, .string ⟨#[120]⟩]) :
    Calls Try.prog 27 #[.agg (cfgV b M F O)] w fun e w' => e = .returned (.int .i64 0) ∧ Touch NoS w w' := by
  have x0 : ∀ W, (Instr.index 89 (.agg #[.int .i64 5, .int .i64 9, .int .i64 3, .int .i64 4]) (.int .i64 0)).run Try.prog W = .ok (.int .i64 5) W := fun W => rfl
  have x1 : ∀ W, (Instr.index 89 (.agg #[.int .i64 5, .int .i64 9, .int .i64 3, .int .i64 4]) (.int .i64 1)).run Try.prog W = .ok (.int .i64 9) W := fun W => rfl
  have x2 : ∀ W, (Instr.index 89 (.agg #[.int .i64 5, .int .i64 9, .int .i64 3, .int .i64 4]) (.int .i64 2)).run Try.prog W = .ok (.int .i64 3) W := fun W => rfl
  have x3 : ∀ W, (Instr.index 89 (.agg #[.int .i64 5, .int .i64 9, .int .i64 3, .int .i64 4]) (.int .i64 3)).run Try.prog W = .ok (.int .i64 4) W := fun W => rfl
  have q0 := hb.cell 0
  have q1 := hb.cell 1
  have q2 := hb.cell 2
  have ql := hb.lt
  simp at q0 q1 q2
  have HB := Lib.hid hb
  have HI := Lib.hid (fun n a b h1 h2 W => r_in n a b h1 h2 W)
  have HRI := Lib.hid (fun W => r_right W)
  have HCO := Lib.hid (fun A c W => r_contains0 A c W)
  have i1 : (1 : Int) ≤ M := by omega
  have i2 : (M : Int) ≤ 65536 := by omega
  have i2b : (M : Int) ≤ 300 := by omega
  have i3 : (1 : Int) ≤ F := by omega
  have i4 : (F : Int) ≤ 65536 := by omega
  have i5 : (1 : Int) ≤ O := by omega
  have i6 : (O : Int) ≤ 65536 := by omega
  unfold cfgV
  clear hb
  go_enter Try.func27, Try.ntmps27
  obtain ⟨w0, hw0⟩ : ∃ w0, w0 = w.alloc (.cells (cfgV b M F O) 25) := ⟨_, rfl⟩
  obtain ⟨gc, hgc⟩ : ∃ g, g = w.heap.size := ⟨_, rfl⟩
  have hbc : Blk w0 gc 25 (cfgV b M F O) := by rw [hw0, hgc]; exact Blk.new _ _ _
  have HT0 : Hid (Touch NoS w w0) := by rw [hw0]; exact (Touch.refl _ _).alloc _
  have HBC := Lib.hid hbc
  have c0 := hbc.cell 0
  have c1 := hbc.cell 1
  have c2 := hbc.cell 2
  have c3 := hbc.cell 3
  have c4 := hbc.cell 4
  have c5 := hbc.cell 5
  have c6 := hbc.cell 6
  have c7 := hbc.cell 7
  have c8 := hbc.cell 8
  have c9 := hbc.cell 9
  have c10 := hbc.cell 10
  have c11 := hbc.cell 11
  have cl := hbc.lt
  simp [cfgV] at c0 c1 c2 c3 c4 c5 c6 c7 c8 c9 c10 c11
  unfold cfgV at hw0
  go_upto_region 2 with (fail)
  rw [← hw0, ← hgc]
  clear hw0 hgc hbc
  go_upto_region 3 with (go_at_call 43; refine (HI.out _ _ _ (by omega) (by omega) _).mono ?_; rintro e w9 ⟨rfl, rfl⟩)
  go_wp2_with fail
  go_loopw [4, 67] (fun ok iv wr => ∃ k : Nat, k ≤ 4 ∧ iv = .int .i64 k ∧ ok = .bool true ∧ wr = w0) (fun _ iv _ => 4 - (intOf iv).toNat)
  case atStart => exact ⟨0, by omega, rfl, rfl, rfl⟩
  case round =>
    obtain ⟨k, hk, rfl, rfl, rfl⟩ := hrel
    by_cases hlt : k < 4
    · have hkc : k = 0 ∨ k = 1 ∨ k = 2 ∨ k = 3 := by omega
      rcases hkc with rfl | rfl | rfl | rfl
      all_goals
        go_wp2_with (go_at_call 43; refine (HI.out _ _ _ (by omega) (by omega) _).mono ?_; rintro e w9 ⟨rfl, rfl⟩)
        go_roundw
        · first
            | exact ⟨1, by omega, by go_num, rfl, by first | trivial | rfl⟩
            | exact ⟨2, by omega, by go_num, rfl, by first | trivial | rfl⟩
            | exact ⟨3, by omega, by go_num, rfl, by first | trivial | rfl⟩
            | exact ⟨4, by omega, by go_num, rfl, by first | trivial | rfl⟩
        · simp [intOf]
    · have hge : ¬ ((k : Int) < 4) := by omega
      go_wp2_with fail
      clear hge hlt hk
      go_loopw [4, 80] (fun ok iv wr => ∃ k : Nat, k ≤ 1 ∧ iv = .int .i64 k ∧ ok = .bool true ∧ Touch NoS w wr ∧ Blk wr gc 25 (cfgV b M F O)) (fun _ iv _ => 1 - (intOf iv).toNat)
      case atStart => exact ⟨0, by omega, rfl, rfl, HT0.out, HBC.out⟩
      case round =>
        obtain ⟨k, hk, rfl, rfl, ht, hbg⟩ := hrel
        have HT := Lib.hid ht
        have HBG := Lib.hid hbg
        by_cases hlt : k < 1
        · obtain rfl : k = 0 := by omega
          have hb1 := HB.out.touch ht (fun h => h)
          have r0 := hb1.cell 0
          have r1 := hb1.cell 1
          have r2 := hb1.cell 2
          have rl := hb1.lt
          simp at r0 r1 r2
          clear c0 c1 c2 c3 c4 c5 c6 c7 c8 c9 c10 c11 cl q0 q1 q2 ql ht hb1 hbg x0 x1 x2 x3
          go_upto_region 11 with (fail)
          obtain ⟨w2, hw2⟩ : ∃ w2, w2 = wr.alloc (.cells #[.string ⟨#[47]⟩, .string ⟨#[]⟩, .string ⟨#[120]⟩] 63) := ⟨_, rfl⟩
          obtain ⟨g2, hg2⟩ : ∃ g, g = wr.heap.size := ⟨_, rfl⟩
          have hb2 : Blk w2 g2 63 #[.string ⟨#[47]⟩, .string ⟨#[]⟩, .string ⟨#[120]⟩] := by rw [hw2, hg2]; exact Blk.new _ _ _
          have hbg2 : Blk w2 gc 25 (cfgV b M F O) := by rw [hw2]; exact HBG.out.alloc _
          have HT2 : Hid (Touch NoS w w2) := by rw [hw2]; exact HT.out.alloc _
          rw [← hw2, ← hg2]
          have z0 := hb2.cell 0
          have z1 := hb2.cell 1
          have z2 := hb2.cell 2
          have zl := hb2.lt
          have zc := hbg2.cell 0
          have zcl := hbg2.lt
          simp [cfgV] at z0 z1 z2 zc
          have HB2 := Lib.hid hb2
          have HBG2 := Lib.hid hbg2
          clear hw2 hg2 hb2 hbg2 r0 r1 r2 rl
          go_region_with (first
              | (go_at_call 44; refine (HRI.out _).mono ?_; rintro e w5 ⟨rfl, ht5⟩; have hb5 := HB2.out.drew.touch ht5 (fun h => h); have hg5 := HBG2.out.drew.touch ht5 (fun h => h); have z0 := hb5.cell 0; have z1 := hb5.cell 1; have z2 := hb5.cell 2; have zl := hb5.lt; have zc := hg5.cell 0; have zcl := hg5.lt; simp [cfgV] at z0 z1 z2 zc; have HT5 : Hid (Touch NoS w2 w5) := (Touch.refl NoS w2).drew.trans ht5; clear hb5 hg5 ht5)
              | (go_at_call 45; refine (HCO.out _ _ _).mono ?_; rintro e w6 ⟨rfl, ht6⟩; have HT6 := Lib.hid (HT5.out.trans ht6); clear ht6))
          all_goals
            have HT9 := Lib.hid (HT2.out.trans HT6.out)
            have HB9 := Lib.hid (HBG2.out.touch HT6.out (fun h => h))
            simp [Act.put]
            go_wp2_with fail
            go_roundw
            · exact ⟨1, by omega, by go_num, rfl, HT9.out, HB9.out⟩
            · simp [intOf]
        · obtain rfl : k = 1 := by omega
          clear ht hbg
          go_wp2_with fail
          go_ret
          exact ⟨rfl, HT.out⟩
end Go.Proofs.Ytpadlcllcmodaaa
