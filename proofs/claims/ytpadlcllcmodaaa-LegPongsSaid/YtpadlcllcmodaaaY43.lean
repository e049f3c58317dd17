/- leg: New; the laws' configuration. | leg: one side as the laws see it; awake. | law16: awake. -/
import Derived.Test.YtpadlcllcmodaaaY41
import Derived.Test.YtpadlcllcmodaaaY42
import Derived.Test.YtpadlcllcmodaaaY09
/- leg: New; the laws' configuration. -/
namespace Go.Proofs.Ytpadlcllcmodaaa
open Go.RowKit
set_option linter.unusedSimpArgs false
set_option linter.unusedVariables false

theorem cfg_info : (Try.prog.info? 25).map (·.size) = some 12 := by kernel_rfl
theorem cfg_load {w : World} {g b M F O : Nat} (h : Blk w g 25 (cfgV b M F O)) : (loadVar 25 ⟨g, 0, none⟩).run Try.prog w = .ok (.agg (cfgV b M F O)) w :=
  run_loadVar_row w g 25 25 (cfgV b M F O) (0, 0) _ h Try.underlying25 rfl (by rw [show (cfgV b M F O).size = 12 from rfl]; exact cfg_info)
set_option maxHeartbeats 3200000 in
set_option maxRecDepth 100000 in
theorem l_cfg (m s o : Nat) (hm : m ≤ 255) (hs : s ≤ 255) (ho : o ≤ 255) (w : World) : Calls Try.prog 8 #[.int .u8 m, .int .u8 s, .int .u8 o] w fun e w' =>
    ∃ b, e = .returned (.agg (cfgV b (1 + m) (1 + s) (1 + o))) ∧ w.heap.size ≤ b ∧ Blk w' b 63 #[.string ⟨#[47]⟩, .string ⟨#[]⟩, .string ⟨#[120]⟩] ∧ Touch NoS w w' := by
  go_enter Try.func8, Try.ntmps8
  go_wp2_with fail
  have hb : Blk ((w.alloc (.cells #[.slice (some ⟨w.heap.size + 1, 0, none⟩) 1 1, .slice none 0 0, .int .i64 4, .int .i64 (1 + m), .int .i64 (1 + s), .int .i64 3, .int .i64 300, .int .i64 (1 + o), .int .i64 5, .int .i64 9, .int .i64 3, .int .i64 4] 25)).alloc (.cells #[.string ⟨#[47]⟩, .string ⟨#[]⟩, .string ⟨#[120]⟩] 63)) w.heap.size 25 (cfgV (w.heap.size + 1) (1 + m) (1 + s) (1 + o)) := by
    have := (Blk.new w 25 (cfgV (w.heap.size + 1) (1 + m) (1 + s) (1 + o))).alloc (.cells #[.string ⟨#[47]⟩, .string ⟨#[]⟩, .string ⟨#[120]⟩] 63)
    unfold cfgV at this ⊢
    simpa using this
  have hld := cfg_load hb
  refine bodyPost_ret (v := .agg (cfgV (w.heap.size + 1) (1 + m) (1 + s) (1 + o))) (by simp [results, Try.results8, go_sem, hld, cfgV]) rfl ?_
  refine ⟨w.heap.size + 1, rfl, by omega, ?_, ((Touch.refl _ _).alloc _).alloc _⟩
  have := Blk.new (w.alloc (.cells #[.slice (some ⟨w.heap.size + 1, 0, none⟩) 1 1, .slice none 0 0, .int .i64 4, .int .i64 (1 + m), .int .i64 (1 + s), .int .i64 3, .int .i64 300, .int .i64 (1 + o), .int .i64 5, .int .i64 9, .int .i64 3, .int .i64 4] 25)) 63 #[.string ⟨#[47]⟩, .string ⟨#[]⟩, .string ⟨#[120]⟩]
  simpa using this
def Lg.new (message : Nat) (draw : Int) : Lg := ⟨[], 0, Mc.new message, ⟨[], [], [], [], draw⟩, false, false, 0⟩
def LV.nil : LV := ⟨.slice none 0 0, .slice none 0 0, .slice none 0 0, .slice none 0 0, .slice none 0 0⟩
set_option maxHeartbeats 6400000 in
set_option maxRecDepth 100000 in
theorem l_new (A1 A2 : Option Addr) (n1 c1 n2 c2 : Nat) (T : Int) (M F : Nat) (C B : Int) (O : Nat) (sh id po cl : Int) (masked : Bool) (draw : Int) (w : World) (h1 : 1 ≤ M) (h2 : M ≤ 65536) (h3 : 1 ≤ O) (h4 : O ≤ 65536)
    (hck : ∀ W, Touch NoS w W → Calls Try.prog 27 #[.agg #[.slice A1 n1 c1, .slice A2 n2 c2, .int .i64 T, .int .i64 M, .int .i64 F, .int .i64 C, .int .i64 B, .int .i64 O, .int .i64 sh, .int .i64 id, .int .i64 po, .int .i64 cl]] W fun e w' => e = .returned (.int .i64 0) ∧ Touch NoS W w') :
    Calls Try.prog 9 #[.agg #[.slice A1 n1 c1, .slice A2 n2 c2, .int .i64 T, .int .i64 M, .int .i64 F, .int .i64 C, .int .i64 B, .int .i64 O, .int .i64 sh, .int .i64 id, .int .i64 po, .int .i64 cl], .bool masked, .int .u32 draw] w fun e w' =>
      ∃ g k, e = .returned (.tuple #[.pointer (some ⟨g, 0, none⟩), .int .i64 0]) ∧ k.message = M ∧ k.frame = F ∧ k.out = O ∧ k.masks = !masked ∧ IsL w' g k (Lg.new M draw) LV.nil ∧ (∀ b, LF g k LV.nil b → w.heap.size ≤ b) ∧ Touch NoS w w' := by
  have HCK := Lib.hid hck
  have hmx : max (M : Int) 125 = ((max M 125 : Nat) : Int) := by omega
  clear hck
  go_enter Try.func9, Try.ntmps9
  go_wp2_with fail
  refine (HCK.out _ ((Touch.refl _ _).alloc _)).mono ?_
  rintro e w1 ⟨rfl, ht⟩
  have hb := (Blk.new w 25 #[.slice A1 n1 c1, .slice A2 n2 c2, .int .i64 T, .int .i64 M, .int .i64 F, .int .i64 C, .int .i64 B, .int .i64 O, .int .i64 sh, .int .i64 id, .int .i64 po, .int .i64 cl]).touch ht (fun h => h)
  have HT := Lib.hid (((Touch.refl NoS w).alloc (.cells #[.slice A1 n1 c1, .slice A2 n2 c2, .int .i64 T, .int .i64 M, .int .i64 F, .int .i64 C, .int .i64 B, .int .i64 O, .int .i64 sh, .int .i64 id, .int .i64 po, .int .i64 cl] 25)).trans ht)
  have q0 := hb.cell 0
  have q1 := hb.cell 1
  have q2 := hb.cell 2
  have q3 := hb.cell 3
  have q4 := hb.cell 4
  have q5 := hb.cell 5
  have q6 := hb.cell 6
  have q7 := hb.cell 7
  have q8 := hb.cell 8
  have q9 := hb.cell 9
  have q10 := hb.cell 10
  have q11 := hb.cell 11
  have ql := hb.lt
  simp at q0 q1 q2 q3 q4 q5 q6 q7 q8 q9 q10 q11
  have HB := Lib.hid hb
  clear ht hb
  go_wp2_with fail
  have HBL0 : Hid (Blk (w1.alloc (.cells #[.slice A1 n1 c1, .slice A2 n2 c2, .int .i64 T, .int .i64 M, .int .i64 F, .int .i64 C, .int .i64 B, .int .i64 O, .int .i64 sh, .int .i64 id, .int .i64 po, .int .i64 cl, .pointer none, .pointer none, .pointer none, .slice none 0 0, .slice none 0 0, .slice none 0 0, .bool (!masked), .int .u32 draw, .bool false, .bool false, .int .i64 0] 71)) w1.heap.size 71 #[.slice A1 n1 c1, .slice A2 n2 c2, .int .i64 T, .int .i64 M, .int .i64 F, .int .i64 C, .int .i64 B, .int .i64 O, .int .i64 sh, .int .i64 id, .int .i64 po, .int .i64 cl, .pointer none, .pointer none, .pointer none, .slice none 0 0, .slice none 0 0, .slice none 0 0, .bool (!masked), .int .u32 draw, .bool false, .bool false, .int .i64 0]) := Blk.new _ _ _
  have HTL0 : Hid (Touch NoS w (w1.alloc (.cells #[.slice A1 n1 c1, .slice A2 n2 c2, .int .i64 T, .int .i64 M, .int .i64 F, .int .i64 C, .int .i64 B, .int .i64 O, .int .i64 sh, .int .i64 id, .int .i64 po, .int .i64 cl, .pointer none, .pointer none, .pointer none, .slice none 0 0, .slice none 0 0, .slice none 0 0, .bool (!masked), .int .u32 draw, .bool false, .bool false, .int .i64 0] 71))) := HT.out.alloc _
  have HBC0 := Lib.hid (HB.out.alloc (.cells #[.slice A1 n1 c1, .slice A2 n2 c2, .int .i64 T, .int .i64 M, .int .i64 F, .int .i64 C, .int .i64 B, .int .i64 O, .int .i64 sh, .int .i64 id, .int .i64 po, .int .i64 cl, .pointer none, .pointer none, .pointer none, .slice none 0 0, .slice none 0 0, .slice none 0 0, .bool (!masked), .int .u32 draw, .bool false, .bool false, .int .i64 0] 71))
  have hws1 := HT.out.size
  obtain ⟨g, hg⟩ : ∃ g, g = w1.heap.size := ⟨_, rfl⟩
  have hgw : w.heap.size ≤ g := by rw [hg]; exact hws1
  obtain ⟨w2, hw2⟩ : ∃ w2, w2 = w1.alloc (.cells #[.slice A1 n1 c1, .slice A2 n2 c2, .int .i64 T, .int .i64 M, .int .i64 F, .int .i64 C, .int .i64 B, .int .i64 O, .int .i64 sh, .int .i64 id, .int .i64 po, .int .i64 cl, .pointer none, .pointer none, .pointer none, .slice none 0 0, .slice none 0 0, .slice none 0 0, .bool (!masked), .int .u32 draw, .bool false, .bool false, .int .i64 0] 71) := ⟨_, rfl⟩
  rw [← hw2] at HBL0 HTL0 HBC0
  rw [← hg] at HBL0
  rw [← hw2, ← hg]
  clear hw2 hg q0 q1 q2 q3 q4 q5 q6 q7 q8 q9 q10 q11 ql hws1 HB HT
  refine (stv_new masked _ (by omega) (by omega) w2).mono ?_
  rintro e w3 ⟨rfl, hs3, ht3⟩
  have hb3 := HBL0.out.touch ht3 (fun h => h)
  have hc3 := HBC0.out.touch ht3 (fun h => h)
  have HS3 := Lib.hid hs3
  have HT3 := Lib.hid (HTL0.out.trans ht3)
  have hgs : w.heap.size ≤ w2.heap.size := HTL0.out.size
  obtain ⟨sg, hsg⟩ : ∃ x, x = w2.heap.size := ⟨_, rfl⟩
  rw [← hsg] at HS3 hgs ⊢
  have q12 := hb3.cell 12
  have f12 := hb3.frozen 12
  have l3 := hb3.lt
  have q3 := hc3.cell 3
  simp at q12 q3
  have hneg : sg ≠ g := Blk.ne_ HS3.out.1 hb3 (by decide)
  have HB3 := Lib.hid hb3
  have HC3 := Lib.hid hc3
  clear hs3 ht3 hb3 hc3 hsg HBL0 HTL0 HBC0
  go_wp2_with fail
  have tg4 : Touch (At g) w3 (w3.setCell ⟨g, 12, none⟩ (.pointer (some ⟨sg, 0, none⟩))) := (Touch.refl (At g) w3).setAt 12 _
  have HB4 : Hid (Blk (w3.setCell ⟨g, 12, none⟩ (.pointer (some ⟨sg, 0, none⟩))) g 71 #[.slice A1 n1 c1, .slice A2 n2 c2, .int .i64 T, .int .i64 M, .int .i64 F, .int .i64 C, .int .i64 B, .int .i64 O, .int .i64 sh, .int .i64 id, .int .i64 po, .int .i64 cl, .pointer (some ⟨sg, 0, none⟩), .pointer none, .pointer none, .slice none 0 0, .slice none 0 0, .slice none 0 0, .bool (!masked), .int .u32 draw, .bool false, .bool false, .int .i64 0]) := by
    refine Lib.hid ?_
    have := HB3.out.set_ 12 (.pointer (some ⟨sg, 0, none⟩))
    simpa using this
  have HS4 := Lib.hid (HS3.out.touch tg4 hneg (fun b hb => by cases hb))
  have HC4 := Lib.hid (HC3.out.touch tg4 (fun h => (Blk.ne_ HC3.out HB3.out (by decide)) h))
  have HT4 : Hid (Touch NoS w (w3.setCell ⟨g, 12, none⟩ (.pointer (some ⟨sg, 0, none⟩)))) := HT3.out.setNew hgw _
  obtain ⟨w4, hw4⟩ : ∃ x, x = w3.setCell ⟨g, 12, none⟩ (.pointer (some ⟨sg, 0, none⟩)) := ⟨_, rfl⟩
  rw [← hw4] at HB4 HS4 HC4 HT4 ⊢
  clear tg4 hw4 HB3 HS3 HC3 HT3 q12 f12 l3 q3
  refine (m_new M (by omega) (by omega) w4).mono ?_
  rintro e w5 ⟨mg, mcu, rfl, hmg, hmcu, hm5, ht5⟩
  have hb5 := HB4.out.touch ht5 (fun h => h)
  have hc5 := HC4.out.touch ht5 (fun h => h)
  have HS5 := Lib.hid (HS4.out.no ht5)
  have HM5 := Lib.hid hm5
  have HT5 := Lib.hid (HT4.out.trans ht5)
  have hwm : w.heap.size ≤ mg ∧ w.heap.size ≤ mcu := by
    have := HT4.out.size
    omega
  have q13 := hb5.cell 13
  have f13 := hb5.frozen 13
  have l5 := hb5.lt
  have q7 := hc5.cell 7
  simp at q13 q7
  have hnm : mg ≠ g := Blk.ne_ HM5.out.1 hb5 (by decide)
  have hnc : mcu ≠ g := Blk.ne_ HM5.out.2.2 hb5 (by decide)
  have HB5 := Lib.hid hb5
  have HC5 := Lib.hid hc5
  clear hm5 ht5 hb5 hc5 HB4 HC4 HT4 HS4 hmg hmcu
  go_wp2_with fail
  have tg6 : Touch (At g) w5 (w5.setCell ⟨g, 13, none⟩ (.pointer (some ⟨mg, 0, none⟩))) := (Touch.refl (At g) w5).setAt 13 _
  have HB6 : Hid (Blk (w5.setCell ⟨g, 13, none⟩ (.pointer (some ⟨mg, 0, none⟩))) g 71 #[.slice A1 n1 c1, .slice A2 n2 c2, .int .i64 T, .int .i64 M, .int .i64 F, .int .i64 C, .int .i64 B, .int .i64 O, .int .i64 sh, .int .i64 id, .int .i64 po, .int .i64 cl, .pointer (some ⟨sg, 0, none⟩), .pointer (some ⟨mg, 0, none⟩), .pointer none, .slice none 0 0, .slice none 0 0, .slice none 0 0, .bool (!masked), .int .u32 draw, .bool false, .bool false, .int .i64 0]) := by
    refine Lib.hid ?_
    have := HB5.out.set_ 13 (.pointer (some ⟨mg, 0, none⟩))
    simpa using this
  have HS6 := Lib.hid (HS5.out.touch tg6 hneg (fun b hb => by cases hb))
  have HM6 := Lib.hid (HM5.out.touch tg6 hnm hnc (fun b hb => by cases hb))
  have HT6 : Hid (Touch NoS w (w5.setCell ⟨g, 13, none⟩ (.pointer (some ⟨mg, 0, none⟩)))) := HT5.out.setNew hgw _
  obtain ⟨w6, hw6⟩ : ∃ x, x = w5.setCell ⟨g, 13, none⟩ (.pointer (some ⟨mg, 0, none⟩)) := ⟨_, rfl⟩
  rw [← hw6] at HB6 HS6 HM6 HT6 ⊢
  clear tg6 hw6 HB5 HS5 HM5 HC5 HT5 q13 f13 l5 q7
  refine (rg_new O (by omega) (by omega) w6).mono ?_
  rintro e w7 ⟨rg, rb, rfl, hrg, hrb, hr7, ht7⟩
  have hb7 := HB6.out.touch ht7 (fun h => h)
  have HS7 := Lib.hid (HS6.out.no ht7)
  have HM7 := Lib.hid (HM6.out.no ht7)
  have HR7 := Lib.hid hr7
  have HT7 := Lib.hid (HT6.out.trans ht7)
  have hwr : w.heap.size ≤ rg ∧ w.heap.size ≤ rb := by
    have := HT6.out.size
    omega
  have q14 := hb7.cell 14
  have f14 := hb7.frozen 14
  have l7 := hb7.lt
  simp at q14
  have HB7 := Lib.hid hb7
  clear hr7 ht7 hb7 HB6 HT6 HS6 HM6 hrg hrb
  go_wp2_with fail
  have tg8 : Touch (At g) w7 (w7.setCell ⟨g, 14, none⟩ (.pointer (some ⟨rg, 0, none⟩))) := (Touch.refl (At g) w7).setAt 14 _
  have hb8 : Blk (w7.setCell ⟨g, 14, none⟩ (.pointer (some ⟨rg, 0, none⟩))) g 71 #[.slice A1 n1 c1, .slice A2 n2 c2, .int .i64 T, .int .i64 M, .int .i64 F, .int .i64 C, .int .i64 B, .int .i64 O, .int .i64 sh, .int .i64 id, .int .i64 po, .int .i64 cl, .pointer (some ⟨sg, 0, none⟩), .pointer (some ⟨mg, 0, none⟩), .pointer (some ⟨rg, 0, none⟩), .slice none 0 0, .slice none 0 0, .slice none 0 0, .bool (!masked), .int .u32 draw, .bool false, .bool false, .int .i64 0] := by
    have := HB7.out.set_ 14 (.pointer (some ⟨rg, 0, none⟩))
    simpa using this
  obtain ⟨d1, d2, p1, p2⟩ := HR7.out.blk
  have hr8 := HR7.out.touch tg8 (fun h => Blk.ne_ p1 HB7.out (by decide) h) (fun h => Blk.ne_ p2 HB7.out (by decide) h)
  have hs8 := HS7.out.touch tg8 hneg (fun b hb => by cases hb)
  have hm8 := HM7.out.touch tg8 hnm hnc (fun b hb => by cases hb)
  have hap : ∀ u, Apart (.slice none 0 0) u := fun u b hb => by cases hb
  refine bodyPost_ret (v := .tuple #[.pointer (some ⟨g, 0, none⟩), .int .i64 0]) (by simp [results, Try.results9, go_sem]) rfl ?_
  refine ⟨g, ⟨.slice A1 n1 c1, .slice A2 n2 c2, T, M, F, C, B, O, sh, id, po, cl, sg, mg, mcu, rg, rb, !masked⟩, rfl, rfl, rfl, rfl, rfl, ⟨⟨hb8, ?_, Win.nil_ _ _ _, Win.nil_ _ _ _, Win.nil_ _ _ _, fun x hx => (by cases hx), fun x hx => (by cases hx), fun h => (by cases h)⟩, ?_, ?_, Mc.new_good M (by omega) (by omega), hap _, hap _, fun h => (by cases h), hap _, fun h => (by cases h), hap _⟩, ?_, HT7.out.setNew hgw _⟩
  · exact hr8
  · have := hs8.lower (Nat.zero_le _)
    simpa [most16, Lg.new, LV.nil] using this
  · exact hm8.lower (Nat.zero_le _)
  · intro b hb
    unfold LF LV.nil at hb
    simp only at hb
    rcases hb with rfl | rfl | rfl | rfl | rfl | rfl | h | h | h | h | h
    · exact hgw
    · exact hgs
    · exact hwm.1
    · exact hwm.2
    · exact hwr.1
    · exact hwr.2
    all_goals cases h
end Go.Proofs.Ytpadlcllcmodaaa
/- leg: one side as the laws see it; awake. -/
namespace Go.Proofs.Ytpadlcllcmodaaa
open Go.RowKit
set_option linter.unusedSimpArgs false
set_option linter.unusedVariables false

/-- A side made since w0; nothing older was touched. -/
def LgAt (w0 w : World) (g : Nat) (k : Lk) (L : Lg) : Prop := ∃ V, IsL w g k L V ∧ (∀ b, LF g k V b → w0.heap.size ≤ b) ∧ Touch NoS w0 w
/-- What others have is as it was. -/
structure Keep (w w' : World) : Prop where
  blk : ∀ b t cs, Blk w b t cs → Outer t → Blk w' b t cs
  own : ∀ base e size n v xs, w.ownsRow base e size v n xs → Outer e → w'.ownsRow base e size v n xs
  size : w.heap.size ≤ w'.heap.size
theorem Keep.refl (w : World) : Keep w w := ⟨fun _ _ _ h _ => h, fun _ _ _ _ _ _ h _ => h, Nat.le_refl _⟩
theorem Keep.trans {w w1 w2 : World} (h : Keep w w1) (k : Keep w1 w2) : Keep w w2 := ⟨fun b t cs hb ht => k.blk b t cs (h.blk b t cs hb ht) ht, fun base e size n v xs ho he => k.own _ _ _ _ _ _ (h.own _ _ _ _ _ _ ho he) he, Nat.le_trans h.size k.size⟩
theorem Keep.no {w w' : World} (t : Touch NoS w w') : Keep w w' := ⟨fun _ _ _ h _ => h.touch t (fun h => h), fun _ _ _ _ _ _ h _ => own_no h t, t.size⟩
theorem LAct.keeps {w w' : World} {g : Nat} {k : Lk} {L L' : Lg} {V : LV} (a : LAct w w' g k V L') (h : IsL w g k L V) : Keep w w' :=
  ⟨fun b t cs hb ht => a.keep h hb ht, fun base e size n v xs ho he => a.own h ho he, by obtain ⟨_, _, _, t⟩ := a; exact t.size⟩
section
variable {w0 w w' : World} {g : Nat} {k : Lk} {L : Lg}
theorem LgAt.act {L' : Lg} {V : LV} (h1 : ∀ b, LF g k V b → w0.heap.size ≤ b) (h2 : Touch NoS w0 w) (a : LAct w w' g k V L') : LgAt w0 w' g k L' := by
  obtain ⟨V', i, l, t⟩ := a
  refine ⟨V', i, fun b hb => ?_, h2.then_new t fun i hi => .inl (h1 i hi)⟩
  rcases LF_loc l hb with h | h
  · exact h1 b h
  · have := h2.size
    omega
theorem LgAt.no (h : LgAt w0 w g k L) (t : Touch NoS w w') : LgAt w0 w' g k L := by
  obtain ⟨V, i, h1, h2⟩ := h
  exact ⟨V, i.no t, h1, h2.trans t⟩
theorem LgAt.old (h : LgAt w0 w g k L) : Touch NoS w0 w := by
  obtain ⟨V, i, h1, h2⟩ := h
  exact h2
theorem LgAt.ring (h : LgAt w0 w g k L) : L.o.ring.length ≤ k.out := by
  obtain ⟨V, i, h1, h2⟩ := h
  exact i.out.ring.le.1
theorem lg_free (h : LgAt w0 w g k L) : Calls Try.prog 26 #[.pointer (some ⟨g, 0, none⟩)] w fun e w' => e = .returned (.bool L.free) ∧ w = w' := by
  obtain ⟨V, i, h1, h2⟩ := h
  exact l_free i
theorem lg_sent (h : LgAt w0 w g k L) : Calls Try.prog 16 #[.pointer (some ⟨g, 0, none⟩)] w fun e w' => e = .returned (.bool L.sent) ∧ w = w' := by
  obtain ⟨V, i, h1, h2⟩ := h
  exact l_sent i
theorem lg_got (h : LgAt w0 w g k L) : Calls Try.prog 15 #[.pointer (some ⟨g, 0, none⟩)] w fun e w' => e = .returned (.bool L.got) ∧ w = w' := by
  obtain ⟨V, i, h1, h2⟩ := h
  exact l_got i
theorem lg_wrong (h : LgAt w0 w g k L) : Calls Try.prog 14 #[.pointer (some ⟨g, 0, none⟩)] w fun e w' => e = .returned (.int .i64 L.wrong) ∧ w = w' := by
  obtain ⟨V, i, h1, h2⟩ := h
  exact l_wrong i
theorem lg_quiet (h : LgAt w0 w g k L) : Calls Try.prog 24 #[.pointer (some ⟨g, 0, none⟩)] w fun e w' => e = .returned (.bool L.quiet) ∧ w = w' := by
  obtain ⟨V, i, h1, h2⟩ := h
  exact l_quiet i
theorem lg_kept (h : LgAt w0 w g k L) (n m : Nat) (hn : L.part.length = n) (hm : L.m.part.size = m) (hn2 : n ≤ 1000000) (hm2 : m ≤ 1048576) : Calls Try.prog 23 #[.pointer (some ⟨g, 0, none⟩)] w fun e w' => e = .returned (.int .i64 (n + m)) ∧ Touch NoS w w' := by
  obtain ⟨V, i, h1, h2⟩ := h
  exact l_kept i n m hn hm hn2 hm2
theorem lg_peek (h : LgAt w0 w g k L) (n : Int) : Calls Try.prog 22 #[.pointer (some ⟨g, 0, none⟩), .int .i64 n] w fun e w' =>
    ∃ g2, e = .returned (.slice (some ⟨g2, 0, none⟩) (pk n L.o.ring.length) (pk n L.o.ring.length)) ∧ w.heap.size ≤ g2 ∧ Blk w' g2 5 (u8s (L.o.ring.take (pk n L.o.ring.length))).toArray ∧ Touch NoS w w' := by
  obtain ⟨V, i, h1, h2⟩ := h
  exact l_peek i n
theorem lg_take (h : LgAt w0 w g k L) (n : Int) : Calls Try.prog 21 #[.pointer (some ⟨g, 0, none⟩), .int .i64 n] w fun e w' =>
    ∃ g2, e = .returned (.slice (some ⟨g2, 0, none⟩) (pk n L.o.ring.length) (pk n L.o.ring.length)) ∧ w.heap.size ≤ g2 ∧ Blk w' g2 5 (u8s (L.o.ring.take (pk n L.o.ring.length))).toArray ∧ LgAt w0 w' g k (L.take k n) ∧ Keep w w' := by
  obtain ⟨V, i, h1, h2⟩ := h
  refine (l_take i n).mono ?_
  rintro e w' ⟨g2, rfl, q1, q2, ⟨V', q3, q4⟩, q5⟩
  exact ⟨g2, rfl, q1, q2, LgAt.act h1 h2 ⟨V', q3, q4, q5⟩, LAct.keeps ⟨V', q3, q4, q5⟩ i⟩
theorem lg_send (h : LgAt w0 w g k L) (op code : Int) (s : ByteArray) (hs : s.size ≤ maxLen) (hk : k.message ≤ 65536) (hf1 : 1 ≤ k.frame) (hf2 : k.frame ≤ 65536) :
    Calls Try.prog 18 #[.pointer (some ⟨g, 0, none⟩), .agg #[.int .i64 op, .int .i64 code, .string s]] w fun e w' => e = .returned (.bool (L.send k op s).2) ∧ LgAt w0 w' g k (L.send k op s).1 ∧ Keep w w' := by
  obtain ⟨V, i, h1, h2⟩ := h
  refine (l_send i op code s hs hk hf1 hf2).mono ?_
  rintro e w' ⟨rfl, a⟩
  exact ⟨rfl, LgAt.act h1 h2 a, a.keeps i⟩
theorem lg_ping (h : LgAt w0 w g k L) (d : ByteArray) (hd : d.size ≤ maxLen) (hn : L.o.ctl.length ≤ 1000000) :
    Calls Try.prog 19 #[.pointer (some ⟨g, 0, none⟩), .string d] w fun e w' => e = .returned (.bool (L.ping k d).2) ∧ LgAt w0 w' g k (L.ping k d).1 ∧ Keep w w' := by
  obtain ⟨V, i, h1, h2⟩ := h
  refine (l_ping i d hd hn).mono ?_
  rintro e w' ⟨rfl, a⟩
  exact ⟨rfl, LgAt.act h1 h2 a, a.keeps i⟩
theorem lg_close (h : LgAt w0 w g k L) (code : Int) (s : ByteArray) (hd : s.size ≤ maxLen) (hn : L.o.ctl.length ≤ 1000000) :
    Calls Try.prog 20 #[.pointer (some ⟨g, 0, none⟩), .int .i64 code, .string s] w fun e w' => e = .returned (.bool (L.close k code s).2) ∧ LgAt w0 w' g k (L.close k code s).1 ∧ Keep w w' := by
  obtain ⟨V, i, h1, h2⟩ := h
  refine (l_close i code s hd hn).mono ?_
  rintro e w' ⟨rfl, a⟩
  exact ⟨rfl, LgAt.act h1 h2 a, a.keeps i⟩
/-- What always holds of a side between acts. -/
structure Lg.ok (k : Lk) (L : Lg) : Prop where
  bytes : bytesIn L.part
  serr : L.serr ≠ 0 → L.down = true
theorem l_feed {V : LV} (i : IsL w g k L V) (hk : k.message ≤ 65536) (hok : L.ok k) (b : List Int) (A2 : Option Addr) (n cap : Nat) (hn : b.length = n) (hr : Rd w A2 (u8s b)) (hin : bytesIn b) (hc : L.o.ctl.length + L.part.length + n ≤ 900000) :
    Calls Try.prog 12 #[.pointer (some ⟨g, 0, none⟩), .slice A2 n cap] w fun e w' => ∃ A c, e = .returned (.slice A (L.feed k b).2.length c) ∧ w'.ownsRow w.heap.size 47 3 (.slice A (L.feed k b).2.length c) (L.feed k b).2.length (evCells (L.feed k b).2) ∧ LAct w w' g k V (L.feed k b).1 := by
  cases hd : L.down with
  | true =>
    have hf : L.feed k b = (L, []) := by unfold Lg.feed; rw [if_pos hd]
    rw [hf]
    refine (l_feed_no i A2 n cap hd).mono ?_
    rintro e w' ⟨rfl, rfl⟩
    exact ⟨none, 0, rfl, own_nil _ _ _ _, LAct.refl i (Touch.refl _ _)⟩
  | false =>
    have hse : L.serr = 0 := by
      by_cases h : L.serr = 0
      · exact h
      · have := hok.serr h
        rw [hd] at this
        cases this
    refine l_feed_go i hk b A2 n cap hn hr (fun x hx => ?_) (by omega) hc hse hd
    rcases List.mem_append.1 hx with hx | hx
    · exact hok.bytes x hx
    · exact hin x hx
theorem lg_feed (h : LgAt w0 w g k L) (hk : k.message ≤ 65536) (hok : L.ok k) (b : List Int) (A2 : Option Addr) (n cap : Nat) (hn : b.length = n) (hr : Rd w A2 (u8s b)) (hin : bytesIn b) (hc : L.o.ctl.length + L.part.length + n ≤ 900000) :
    Calls Try.prog 12 #[.pointer (some ⟨g, 0, none⟩), .slice A2 n cap] w fun e w' => ∃ A c, e = .returned (.slice A (L.feed k b).2.length c) ∧ w'.ownsRow w.heap.size 47 3 (.slice A (L.feed k b).2.length c) (L.feed k b).2.length (evCells (L.feed k b).2) ∧ LgAt w0 w' g k (L.feed k b).1 ∧ Keep w w' := by
  obtain ⟨V, i, h1, h2⟩ := h
  refine (l_feed i hk hok b A2 n cap hn hr hin hc).mono ?_
  rintro e w' ⟨A, c, rfl, ho, a⟩
  exact ⟨A, c, rfl, ho, LgAt.act h1 h2 a, a.keeps i⟩
end
/-- A side of the laws' configuration. -/
theorem lg_new (b M F O : Nat) (h1 : 1 ≤ M) (h2 : M ≤ 300) (h3 : 1 ≤ F) (h4 : F ≤ 65536) (h5 : 1 ≤ O) (h6 : O ≤ 65536) (masked : Bool) (draw : Int) (w : World) (hb : Blk w b 63 #[.string ⟨#[47]⟩, .string ⟨#[]⟩, .string ⟨#[120]⟩]) :
    Calls Try.prog 9 #[.agg (cfgV b M F O), .bool masked, .int .u32 draw] w fun e w' =>
      ∃ g k, e = .returned (.tuple #[.pointer (some ⟨g, 0, none⟩), .int .i64 0]) ∧ k.message = M ∧ k.frame = F ∧ k.out = O ∧ k.masks = !masked ∧ LgAt w w' g k (Lg.new M draw) := by
  refine (l_new (some ⟨b, 0, none⟩) none 1 1 0 0 4 M F 3 300 O 5 9 3 4 masked draw w h1 (by omega) h5 h6 (fun W t => r_check b M F O h1 h2 h3 h4 h5 h6 W (hb.touch t (fun h => h)))).mono ?_
  rintro e w' ⟨g, k, rfl, q1, q2, q3, q4, q5, q6, q7⟩
  exact ⟨g, k, rfl, q1, q2, q3, q4, LV.nil, q5, q6, q7⟩
def aw16a : Lg := ⟨[], 100, Mc.new 100, ⟨[136, 2, 3, 234], [], [], [], 7⟩, true, false, 100⟩
def aw16b : Lg := ⟨[], 100, Mc.new 100, ⟨[], [], [], [], 7⟩, true, false, 100⟩
theorem aw16_feed (k : Lk) (h1 : k.message = 100) (h3 : k.out = 100) (h4 : k.masks = false) : (Lg.new 100 7).feed k [129, 0] = (aw16a, []) := by
  obtain ⟨_, _, _, _, _, _, _, _, _, _, _, _, _, _, _, _, _, _⟩ := k
  simp only at h1 h3 h4
  subst h1 h3 h4
  rfl
theorem aw16_take (k : Lk) (h3 : k.out = 100) (h4 : k.masks = false) : aw16a.take k 100 = aw16b := by
  obtain ⟨_, _, _, _, _, _, _, _, _, _, _, _, _, _, _, _, _, _⟩ := k
  simp only at h3 h4
  subst h3 h4
  rfl
end Go.Proofs.Ytpadlcllcmodaaa
/- law16: awake. -/
namespace Go.Proofs.Ytpadlcllcmodaaa
open Go.RowKit
set_option linter.unusedSimpArgs false
set_option linter.unusedVariables false

theorem Blk.rd_all {w : World} {g : Nat} {t : TypeId} {xs : List Value} (h : Blk w g t xs.toArray) : Rd w (some ⟨g, 0, none⟩) xs := h.rd 0 xs (fun j u hu => by rw [Nat.zero_add]; simpa using hu)
set_option maxHeartbeats 6400000 in
set_option maxRecDepth 100000 in
theorem aw16 (w : World) : Calls Try.prog 10 #[] w fun e w' => e = .returned (.bool true) ∧ Touch NoS w w' := by
  go_enter Try.func10, Try.ntmps10
  go_wp2_with fail
  refine (l_cfg 99 49 99 (by omega) (by omega) (by omega) _).mono ?_
  rintro e w1 ⟨b, rfl, hb, hbr, ht⟩
  have HT1 := Lib.hid ht
  have HNEW := Lib.hid (lg_new b (1 + 99) (1 + 49) (1 + 99) (by omega) (by omega) (by omega) (by omega) (by omega) (by omega) true 7 w1 hbr)
  clear ht hbr
  unfold cfgV
  unfold cfgV at HNEW
  go_wp2_with fail
  refine HNEW.out.mono ?_
  rintro e w2 ⟨g, k, rfl, hk1, hk2, hk3, hk4, hL⟩
  have HL2 := Lib.hid hL
  have HK1 := Lib.hid hk1
  have HK2 := Lib.hid hk2
  have HK3 := Lib.hid hk3
  have HK4 := Lib.hid hk4
  clear hL hk1 hk2 hk3 hk4 HNEW
  go_wp2_with fail
  refine (lg_free HL2.out).mono ?_
  rintro e w3 ⟨rfl, rfl⟩
  rw [show (Lg.new (1 + 99) 7).free = true from rfl]
  have hok : (Lg.new (1 + 99) 7).ok k := ⟨fun x hx => (by cases hx), fun h => absurd rfl h⟩
  have HOK := Lib.hid hok
  clear hok
  go_wp2_with fail
  refine (lg_feed (HL2.out.no ((Touch.refl _ _).alloc _)) (by rw [HK1.out]; omega) HOK.out [129, 0] (some ⟨w2.heap.size, 0, none⟩) 2 2 rfl (Rd.new w2 (u8s [129, 0]) 5 (0, 0)) (fun x hx => by simp at hx; omega) (by show (0 : Nat) + 0 + 2 ≤ 900000; omega)).mono ?_
  rintro e w3 ⟨A3, c3, rfl, -, hL, -⟩
  rw [aw16_feed k HK1.out HK3.out HK4.out] at hL ⊢
  have HL3 := Lib.hid hL
  clear hL HL2
  go_wp2_with fail
  refine (lg_take HL3.out 100).mono ?_
  rintro e w4 ⟨g4, rfl, hg4, hb4, hL, -⟩
  rw [aw16_take k HK3.out HK4.out] at hL
  have HL4 := Lib.hid hL
  have hcv : (convert 36 9 (.slice (some ⟨g4, 0, none⟩) (pk 100 aw16a.o.ring.length) (pk 100 aw16a.o.ring.length))).run Try.prog w4 = .ok (.string ⟨#[136, 2, 3, 234]⟩) w4 := by
    have := conv_str w4 (some ⟨g4, 0, none⟩) [136, 2, 3, 234] 4 4 rfl hb4.rd_all
    exact this
  rw [show pk 100 aw16a.o.ring.length = 4 from rfl] at hcv ⊢
  clear hL HL3 hb4 hg4
  go_wp2_with fail
  refine (lg_wrong HL4.out).mono ?_
  rintro e w5 ⟨rfl, rfl⟩
  rw [show aw16b.wrong = 100 from rfl]
  go_wp2_with fail
  refine (lg_sent HL4.out).mono ?_
  rintro e w5 ⟨rfl, rfl⟩
  rw [show aw16b.sent = true from rfl]
  go_wp2_with fail
  refine (lg_got HL4.out).mono ?_
  rintro e w5 ⟨rfl, rfl⟩
  rw [show aw16b.got = false from rfl]
  go_wp2_with fail
  refine (lg_quiet HL4.out).mono ?_
  rintro e w5 ⟨rfl, rfl⟩
  rw [show aw16b.quiet = true from rfl]
  go_wp2_with fail
  refine (lg_kept HL4.out 0 0 rfl rfl (by omega) (by omega)).mono ?_
  rintro e w5 ⟨rfl, ht⟩
  have HL5 := Lib.hid (HL4.out.no ht)
  clear ht HL4 hcv
  go_wp2_with fail
  refine (lg_send HL5.out 1 0 ⟨#[]⟩ (by unfold maxLen; decide) (by rw [HK1.out]; omega) (by rw [HK2.out]; omega) (by rw [HK2.out]; omega)).mono ?_
  rintro e w6 ⟨rfl, hL, -⟩
  have hs : aw16b.send k 1 ⟨#[]⟩ = (aw16b, false) := by unfold Lg.send; rw [if_neg (by rintro ⟨h, _⟩; cases h)]
  rw [hs] at hL ⊢
  have HL6 := Lib.hid hL
  clear hL HL5 hs
  go_wp2_with fail
  refine (lg_ping HL6.out ⟨#[]⟩ (by unfold maxLen; decide) (by show (0 : Nat) ≤ _; omega)).mono ?_
  rintro e w7 ⟨rfl, hL, -⟩
  have hs : aw16b.ping k ⟨#[]⟩ = (aw16b, false) := by unfold Lg.ping; rw [if_pos (.inl rfl)]
  rw [hs] at hL ⊢
  have HL7 := Lib.hid hL
  clear hL HL6 hs
  go_wp2_with fail
  refine (lg_close HL7.out 1000 ⟨#[]⟩ (by unfold maxLen; decide) (by show (0 : Nat) ≤ _; omega)).mono ?_
  rintro e w8 ⟨rfl, hL, -⟩
  have hs : aw16b.close k 1000 ⟨#[]⟩ = (aw16b, false) := by unfold Lg.close; rw [if_pos (.inl rfl)]
  rw [hs] at hL ⊢
  have HL8 := Lib.hid hL
  clear hL HL7 hs
  go_wp2_with fail
  refine (lg_peek HL8.out 9).mono ?_
  rintro e w9 ⟨g9, rfl, -, -, ht⟩
  rw [show pk 9 aw16b.o.ring.length = 0 from rfl]
  have HT9 := Lib.hid (HT1.out.trans (HL8.out.old.trans ht))
  clear ht HL8
  go_wp2_with fail
  go_ret
  exact ⟨rfl, HT9.out⟩
end Go.Proofs.Ytpadlcllcmodaaa
