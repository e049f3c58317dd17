/- msg: its methods on a machine; law12: awake. -/
import Derived.Test.YtkhppojlabajaaaGf
import Derived.Test.YtkhppojlabajaaaEq
namespace Go.Proofs.Ytkhppojlabajaaa
open Go.RowKit
set_option linter.unusedSimpArgs false
set_option linter.unusedVariables false

section
variable {w w' w0 : World} {base g cu : Nat} {c : Mc} {v : Value}
theorem im_err (h : IsMv w base g cu c v) : Calls Try.prog 32 #[.pointer (some ⟨g, 0, none⟩)] w fun x w' => x = .returned (.int .i64 c.err) ∧ w = w' := m_err g _ _ _ _ _ _ w h.1
theorem im_over (h : IsMv w base g cu c v) : Calls Try.prog 33 #[.pointer (some ⟨g, 0, none⟩)] w fun x w' => x = .returned (.bool c.over) ∧ w = w' := m_over g _ _ _ _ _ _ w h.1
theorem im_part (h : IsMv w base g cu c v) (n : Nat) (hn : c.part.size = n) : Calls Try.prog 34 #[.pointer (some ⟨g, 0, none⟩)] w fun x w' => x = .returned (.int .i64 n) ∧ w = w' := by
  obtain ⟨A, k, rfl, _⟩ := own_cases h.2.1
  subst hn
  exact m_part g _ _ A _ k _ _ _ w h.1
theorem MO_keep {b : Nat} {t : TypeId} {cs : Array Value} (h : Blk w b t cs) (hs : IsMv w base g cu c v) (k : Touch (MO g cu v) w w') (h1 : t ≠ 5) (h2 : t ≠ 90) (h3 : t ≠ 108) : Blk w' b t cs :=
  MO_blk h hs k h1 (h.ne_ hs.1 h2) (Blk.ne_ h hs.2.2 h3)
/-- Take, what it comes to being known. -/
theorem im_take (h : IsMv w base g cu c v) (hc : c.good) (f : Fr) (hf : f.good) (hz : f.data.size ≤ 100000000) (hbs : base ≤ w.heap.size) (c' : Mc) (x : Ev) (is : Bool) (er : Int) (hk : mtake c f = (c', x, is, er)) :
    Calls Try.prog 31 #[.pointer (some ⟨g, 0, none⟩), .agg f.cs] w fun r w' => r = .returned (.tuple #[.agg #[.int .i64 x.op, .int .i64 x.code, .string x.data], .bool is, .int .i64 er]) ∧ (∃ v1, IsMv w' base g cu c' v1 ∧ Loc w v v1) ∧ Touch (MO g cu v) w w' ∧ c'.good := by
  have := m_take_v base g cu c hc f hf hz w v h hbs
  have hg := mtake_good hc f
  rw [hk] at this hg
  exact this.mono fun r w' ⟨h1, h2, h3⟩ => ⟨h1, h2, h3, hg⟩
end
theorem fr_good (fin : Bool) (op : Int) (h : 0 ≤ op ∧ op ≤ 15) (d : ByteArray) (hd : d.size ≤ maxLen) : (Fr.mk fin op false 0 0 0 0 d).good :=
  ⟨(Lit.wf_int_iff .i64 op).2 ⟨by show -9223372036854775808 ≤ op; omega, by show op ≤ 9223372036854775807; omega⟩, by intro x hx; simp [Fr.key] at hx; omega, hd⟩

def c12a : Mc := ⟨100, 1, ⟨#[72, 101]⟩, (ufeed Uc.new [72, 101]).1, false, 0⟩
theorem aw12_1 : mtake (Mc.new 100) ⟨false, 1, false, 0, 0, 0, 0, ⟨#[72, 101]⟩⟩ = (c12a, Ev.zero, false, 0) := by kernel_rfl
theorem aw12_2 : mtake c12a ⟨true, 9, false, 0, 0, 0, 0, ⟨#[112]⟩⟩ = (c12a, ⟨9, 0, ⟨#[112]⟩⟩, true, 0) := by kernel_rfl
def c12b : Mc := ⟨100, 0, ⟨#[]⟩, (ufeed Uc.new [72, 101, 108, 108, 111]).1, false, 0⟩
theorem aw12_3 : mtake c12a ⟨true, 0, false, 0, 0, 0, 0, ⟨#[108, 108, 111]⟩⟩ = (c12b, ⟨1, 0, ⟨#[72, 101, 108, 108, 111]⟩⟩, true, 0) := by kernel_rfl

set_option maxHeartbeats 6400000 in
set_option maxRecDepth 100000 in
theorem aw12 (w : World) : Calls Try.prog 30 #[] w fun e w' => e = .returned (.bool true) ∧ Touch NoS w w' := by
  go_enter Try.func30, Try.ntmps30
  go_wp2_with fail
  refine (m_new 100 (by omega) (by omega) _).mono ?_
  rintro e w1 ⟨g, cu, rfl, hg, hcu, hm, ht⟩
  have HM1 := Lib.hid hm
  have HT1 := Lib.hid ht
  clear hm ht
  go_wp2_with fail
  refine (im_take HM1.out (Mc.new_good 100 (by omega) (by omega)) ⟨false, 1, false, 0, 0, 0, 0, ⟨#[72, 101]⟩⟩ (fr_good _ _ (by omega) _ (by decide)) (by decide) HT1.out.size _ _ _ _ aw12_1).mono ?_
  rintro e w2 ⟨rfl, ⟨v2, hm, _⟩, ht, hgd⟩
  have HG2 := Lib.hid hgd
  have HM2 := Lib.hid hm
  have HT2 := Lib.hid (MO_old HT1.out HM1.out ht (Nat.le_refl _) hg hcu)
  clear hm ht hgd HM1 HT1
  simp only [Ev.zero]
  go_wp2_with fail
  refine (im_part (HM2.out.no ((Touch.refl _ _).alloc _)) 2 rfl).mono ?_
  rintro e w3 ⟨rfl, hw3⟩
  have HM3 : Hid (IsMv w3 w.heap.size g cu c12a v2) := by rw [← hw3]; exact HM2.out.no ((Touch.refl _ _).alloc _)
  have HT3 : Hid (Touch NoS w w3) := by rw [← hw3]; exact HT2.out.alloc _
  clear hw3 HM2 HT2
  go_wp2_with fail
  refine (im_take HM3.out HG2.out ⟨true, 9, false, 0, 0, 0, 0, ⟨#[112]⟩⟩ (fr_good _ _ (by omega) _ (by decide)) (by decide) HT3.out.size _ _ _ _ aw12_2).mono ?_
  rintro e w4 ⟨rfl, ⟨v4, hm, _⟩, ht, hgd⟩
  have HG4 := Lib.hid hgd
  have HM4 := Lib.hid (hm.no ((Touch.refl NoS w4).alloc (.cells #[.int .i64 9, .int .i64 0, .string ⟨#[112]⟩] 57)))
  have HT4 := Lib.hid ((MO_old HT3.out HM3.out ht (Nat.le_refl _) hg hcu).alloc (.cells #[.int .i64 9, .int .i64 0, .string ⟨#[112]⟩] 57))
  have HB4 : Hid (Blk (w4.alloc (.cells #[.int .i64 9, .int .i64 0, .string ⟨#[112]⟩] 57)) w4.heap.size 57 #[.int .i64 9, .int .i64 0, .string ⟨#[112]⟩]) := Blk.new _ _ _
  clear hm ht hgd HM3 HT3
  go_wp2_with fail
  obtain ⟨w5, hw5⟩ : ∃ w5, w5 = w4.alloc (.cells #[.int .i64 9, .int .i64 0, .string ⟨#[112]⟩] 57) := ⟨_, rfl⟩
  obtain ⟨gb, hgb⟩ : ∃ gb, gb = w4.heap.size := ⟨_, rfl⟩
  have hgl := HM4.out.lt
  rw [← hw5] at HM4 HT4 HB4 hgl ⊢
  rw [← hgb] at HB4 ⊢
  clear hw5 hgb
  refine (im_take HM4.out HG4.out ⟨true, 0, false, 0, 0, 0, 0, ⟨#[108, 108, 111]⟩⟩ (fr_good _ _ (by omega) _ (by decide)) (by decide) HT4.out.size _ _ _ _ aw12_3).mono ?_
  rintro e w6 ⟨rfl, ⟨v6, hm, _⟩, ht, hgd⟩
  have HM6 := Lib.hid (hm.no ((Touch.refl NoS w6).alloc (.cells #[.int .i64 1, .int .i64 0, .string ⟨#[72, 101, 108, 108, 111]⟩] 57)))
  have HT6 := Lib.hid ((MO_old HT4.out HM4.out ht (Nat.le_refl _) hg hcu).alloc (.cells #[.int .i64 1, .int .i64 0, .string ⟨#[72, 101, 108, 108, 111]⟩] 57))
  have hb6 : Blk w6 gb 57 #[.int .i64 9, .int .i64 0, .string ⟨#[112]⟩] := MO_keep HB4.out HM4.out ht (by decide) (by decide) (by decide)
  have HC6 := Lib.hid (hb6.alloc (.cells #[.int .i64 1, .int .i64 0, .string ⟨#[72, 101, 108, 108, 111]⟩] 57))
  have HB6 : Hid (Blk (w6.alloc (.cells #[.int .i64 1, .int .i64 0, .string ⟨#[72, 101, 108, 108, 111]⟩] 57)) w6.heap.size 57 #[.int .i64 1, .int .i64 0, .string ⟨#[72, 101, 108, 108, 111]⟩]) := Blk.new _ _ _
  have k1 := eql_ev_all ⟨9, 0, ⟨#[112]⟩⟩ ⟨9, 0, ⟨#[112]⟩⟩ true (Ev.same_self _)
  have k2 := eql_ev_all ⟨1, 0, ⟨#[72, 101, 108, 108, 111]⟩⟩ ⟨1, 0, ⟨#[72, 101, 108, 108, 111]⟩⟩ true (Ev.same_self _)
  simp only at k1 k2
  clear hm ht hgd HM4 HT4 hb6
  go_upto_region 8 with (fail)
  obtain ⟨w7, hw7⟩ : ∃ w7, w7 = w6.alloc (.cells #[.int .i64 1, .int .i64 0, .string ⟨#[72, 101, 108, 108, 111]⟩] 57) := ⟨_, rfl⟩
  obtain ⟨gc, hgc⟩ : ∃ gc, gc = w6.heap.size := ⟨_, rfl⟩
  rw [← hw7] at HM6 HT6 HB6 HC6 ⊢
  rw [← hgc] at HB6 ⊢
  clear hw7 hgc
  have x0 := HC6.out.cell 0
  have x1 := HC6.out.cell 1
  have x2 := HC6.out.cell 2
  have y0 := HB6.out.cell 0
  have y1 := HB6.out.cell 1
  have y2 := HB6.out.cell 2
  have xl := HC6.out.lt
  have yl := HB6.out.lt
  simp at x0 x1 x2 y0 y1 y2
  go_wp2_with fail
  refine (im_part HM6.out 0 rfl).mono ?_
  rintro e w8 ⟨rfl, rfl⟩
  go_wp2_with fail
  refine (im_over HM6.out).mono ?_
  rintro e w8 ⟨rfl, rfl⟩
  rw [show c12b.over = false from rfl]
  go_wp2_with fail
  refine (im_err HM6.out).mono ?_
  rintro e w8 ⟨rfl, rfl⟩
  rw [show c12b.err = 0 from rfl]
  go_wp2
  go_ret
  exact ⟨rfl, HT6.out⟩
end Go.Proofs.Ytkhppojlabajaaa
