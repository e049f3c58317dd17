/- msg: its methods on a machine; law12: awake. | msg: plain laws. -/
import Derived.Test.YtkhppojlabajaaaZ41
/- msg: its methods on a machine; law12: awake. -/
namespace Go.Proofs.Ytkhppojlabajaaa
open Go.RowKit
set_option linter.unusedSimpArgs false
set_option linter.unusedVariables false

section
variable {w w' w0 : World} {base g cu : Nat} {c : Mc} {v : Value}
theorem im_err (h : IsMv w base g cu c v) : Calls Try.prog 32 #[.pointer (some ⟨g, 0, none⟩)] w fun x w' => x = .returned (.int .i64 c.err) ∧ w = w' := m_err g _ _ _ _ _ _ w h.1
theorem im_over (h : IsMv w base g cu c v) : Calls Try.prog 33 #[.pointer (some ⟨g, 0, none⟩)] w fun x w' => x = .returned (.bool c.over) ∧ w = w' := m_over g _ _ _ _ _ _ w h.1
theorem im_part (h : IsMv w base g cu c v) (n : Nat) (hn : c.part.size = n) : Calls Try.prog 34 #[.pointer (some ⟨g, 0, none⟩)] w fun x w' => x = .returned (.int .i64 n) ∧ w = w' := by
  obtain ⟨A, k, rfl, _⟩ := own_cases h.2.1
  subst hn
  exact m_part g _ _ A _ k _ _ _ w h.1
theorem MO_keep {b : Nat} {t : TypeId} {cs : Array Value} (h : Blk w b t cs) (hs : IsMv w base g cu c v) (k : Touch (MO g cu v) w w') (h1 : t ≠ 5) (h2 : t ≠ 90) (h3 : t ≠ 108) : Blk w' b t cs :=
  MO_blk h hs k h1 (h.ne_ hs.1 h2) (Blk.ne_ h hs.2.2 h3)
/-- Take, what it comes to being known. -/
theorem im_take (h : IsMv w base g cu c v) (hc : c.good) (f : Fr) (hf : f.good) (hz : f.data.size ≤ 100000000) (hbs : base ≤ w.heap.size) (c' : Mc) (x : Ev) (is : Bool) (er : Int) (hk : mtake c f = (c', x, is, er)) :
    Calls Try.prog 31 #[.pointer (some ⟨g, 0, none⟩), .agg f.cs] w fun r w' => r = .returned (.tuple #[.agg #[.int .i64 x.op, .int .i64 x.code, .string x.data], .bool is, .int .i64 er]) ∧ (∃ v1, IsMv w' base g cu c' v1 ∧ Loc w v v1) ∧ Touch (MO g cu v) w w' ∧ c'.good := by
  have := m_take_v base g cu c hc f hf hz w v h hbs
  have hg := mtake_good hc f
  rw [hk] at this hg
  exact this.mono fun r w' ⟨h1, h2, h3⟩ => ⟨h1, h2, h3, hg⟩
end
theorem fr_good (fin : Bool) (op : Int) (h : 0 ≤ op ∧ op ≤ 15) (d : ByteArray) (hd : d.size ≤ maxLen) : (Fr.mk fin op false 0 0 0 0 d).good :=
  ⟨(Lit.wf_int_iff .i64 op).2 ⟨by show -9223372036854775808 ≤ op; omega, by show op ≤ 9223372036854775807; omega⟩, by intro x hx; simp [Fr.key] at hx; omega, hd⟩

def c12a : Mc := ⟨100, 1, ⟨#[72, 101]⟩, (ufeed Uc.new [72, 101]).1, false, 0⟩
theorem aw12_1 : mtake (Mc.new 100) ⟨false, 1, false, 0, 0, 0, 0, ⟨#[72, 101]⟩⟩ = (c12a, Ev.zero, false, 0) := by kernel_rfl
theorem aw12_2 : mtake c12a ⟨true, 9, false, 0, 0, 0, 0, ⟨#[112]⟩⟩ = (c12a, ⟨9, 0, ⟨#[112]⟩⟩, true, 0) := by kernel_rfl
def c12b : Mc := ⟨100, 0, ⟨#[]⟩, (ufeed Uc.new [72, 101, 108, 108, 111]).1, false, 0⟩
theorem aw12_3 : mtake c12a ⟨true, 0, false, 0, 0, 0, 0, ⟨#[108, 108, 111]⟩⟩ = (c12b, ⟨1, 0, ⟨#[72, 101, 108, 108, 111]⟩⟩, true, 0) := by kernel_rfl

set_option maxHeartbeats 6400000 in
set_option maxRecDepth 100000 in
theorem aw12 (w : World) : Calls Try.prog 30 #[] w fun e w' => e = .returned (.bool true) ∧ Touch NoS w w' := by
  go_enter Try.func30, Try.ntmps30
  go_wp2_with fail
  refine (m_new 100 (by omega) (by omega) _).mono ?_
  rintro e w1 ⟨g, cu, rfl, hg, hcu, hm, ht⟩
  have HM1 := Lib.hid hm
  have HT1 := Lib.hid ht
  clear hm ht
  go_wp2_with fail
  refine (im_take HM1.out (Mc.new_good 100 (by omega) (by omega)) ⟨false, 1, false, 0, 0, 0, 0, ⟨#[72, 101]⟩⟩ (fr_good _ _ (by omega) _ (by decide)) (by decide) HT1.out.size _ _ _ _ aw12_1).mono ?_
  rintro e w2 ⟨rfl, ⟨v2, hm, _⟩, ht, hgd⟩
  have HG2 := Lib.hid hgd
  have HM2 := Lib.hid hm
  have HT2 := Lib.hid (MO_old HT1.out HM1.out ht (Nat.le_refl _) hg hcu)
  clear hm ht hgd HM1 HT1
  simp only [Ev.zero]
  go_wp2_with fail
  refine (im_part (HM2.out.no ((Touch.refl _ _).alloc _)) 2 rfl).mono ?_
  rintro e w3 ⟨rfl, hw3⟩
  have HM3 : Hid (IsMv w3 w.heap.size g cu c12a v2) := by rw [← hw3]; exact HM2.out.no ((Touch.refl _ _).alloc _)
  have HT3 : Hid (Touch NoS w w3) := by rw [← hw3]; exact HT2.out.alloc _
  clear hw3 HM2 HT2
  go_wp2_with fail
  refine (im_take HM3.out HG2.out ⟨true, 9, false, 0, 0, 0, 0, ⟨#[112]⟩⟩ (fr_good _ _ (by omega) _ (by decide)) (by decide) HT3.out.size _ _ _ _ aw12_2).mono ?_
  rintro e w4 ⟨rfl, ⟨v4, hm, _⟩, ht, hgd⟩
  have HG4 := Lib.hid hgd
  have HM4 := Lib.hid (hm.no ((Touch.refl NoS w4).alloc (.cells #[.int .i64 9, .int .i64 0, .string ⟨#[112]⟩] 57)))
  have HT4 := Lib.hid ((MO_old HT3.out HM3.out ht (Nat.le_refl _) hg hcu).alloc (.cells #[.int .i64 9, .int .i64 0, .string ⟨#[112]⟩] 57))
  have HB4 : Hid (Blk (w4.alloc (.cells #[.int .i64 9, .int .i64 0, .string ⟨#[112]⟩] 57)) w4.heap.size 57 #[.int .i64 9, .int .i64 0, .string ⟨#[112]⟩]) := Blk.new _ _ _
  clear hm ht hgd HM3 HT3
  go_wp2_with fail
  obtain ⟨w5, hw5⟩ : ∃ w5, w5 = w4.alloc (.cells #[.int .i64 9, .int .i64 0, .string ⟨#[112]⟩] 57) := ⟨_, rfl⟩
  obtain ⟨gb, hgb⟩ : ∃ gb, gb = w4.heap.size := ⟨_, rfl⟩
  have hgl := HM4.out.lt
  rw [← hw5] at HM4 HT4 HB4 hgl ⊢
  rw [← hgb] at HB4 ⊢
  clear hw5 hgb
  refine (im_take HM4.out HG4.out ⟨true, 0, false, 0, 0, 0, 0, ⟨#[108, 108, 111]⟩⟩ (fr_good _ _ (by omega) _ (by decide)) (by decide) HT4.out.size _ _ _ _ aw12_3).mono ?_
  rintro e w6 ⟨rfl, ⟨v6, hm, _⟩, ht, hgd⟩
  have HM6 := Lib.hid (hm.no ((Touch.refl NoS w6).alloc (.cells #[.int .i64 1, .int .i64 0, .string ⟨#[72, 101, 108, 108, 111]⟩] 57)))
  have HT6 := Lib.hid ((MO_old HT4.out HM4.out ht (Nat.le_refl _) hg hcu).alloc (.cells #[.int .i64 1, .int .i64 0, .string ⟨#[72, 101, 108, 108, 111]⟩] 57))
  have hb6 : Blk w6 gb 57 #[.int .i64 9, .int .i64 0, .string ⟨#[112]⟩] := MO_keep HB4.out HM4.out ht (by decide) (by decide) (by decide)
  have HC6 := Lib.hid (hb6.alloc (.cells #[.int .i64 1, .int .i64 0, .string ⟨#[72, 101, 108, 108, 111]⟩] 57))
  have HB6 : Hid (Blk (w6.alloc (.cells #[.int .i64 1, .int .i64 0, .string ⟨#[72, 101, 108, 108, 111]⟩] 57)) w6.heap.size 57 #[.int .i64 1, .int .i64 0, .string ⟨#[72, 101, 108, 108, 111]⟩]) := Blk.new _ _ _
  have k1 := eql_ev_all ⟨9, 0, ⟨#[112]⟩⟩ ⟨9, 0, ⟨#[112]⟩⟩ true (Ev.same_self _)
  have k2 := eql_ev_all ⟨1, 0, ⟨#[72, 101, 108, 108, 111]⟩⟩ ⟨1, 0, ⟨#[72, 101, 108, 108, 111]⟩⟩ true (Ev.same_self _)
  simp only at k1 k2
  clear hm ht hgd HM4 HT4 hb6
  go_upto_region 8 with (fail)
  obtain ⟨w7, hw7⟩ : ∃ w7, w7 = w6.alloc (.cells #[.int .i64 1, .int .i64 0, .string ⟨#[72, 101, 108, 108, 111]⟩] 57) := ⟨_, rfl⟩
  obtain ⟨gc, hgc⟩ : ∃ gc, gc = w6.heap.size := ⟨_, rfl⟩
  rw [← hw7] at HM6 HT6 HB6 HC6 ⊢
  rw [← hgc] at HB6 ⊢
  clear hw7 hgc
  have x0 := HC6.out.cell 0
  have x1 := HC6.out.cell 1
  have x2 := HC6.out.cell 2
  have y0 := HB6.out.cell 0
  have y1 := HB6.out.cell 1
  have y2 := HB6.out.cell 2
  have xl := HC6.out.lt
  have yl := HB6.out.lt
  simp at x0 x1 x2 y0 y1 y2
  go_wp2_with fail
  refine (im_part HM6.out 0 rfl).mono ?_
  rintro e w8 ⟨rfl, rfl⟩
  go_wp2_with fail
  refine (im_over HM6.out).mono ?_
  rintro e w8 ⟨rfl, rfl⟩
  rw [show c12b.over = false from rfl]
  go_wp2_with fail
  refine (im_err HM6.out).mono ?_
  rintro e w8 ⟨rfl, rfl⟩
  rw [show c12b.err = 0 from rfl]
  go_wp2
  go_ret
  exact ⟨rfl, HT6.out⟩
end Go.Proofs.Ytkhppojlabajaaa
/- msg: plain laws. -/
namespace Go.Proofs.Ytkhppojlabajaaa
set_option linter.unusedSimpArgs false
set_option linter.unusedVariables false

theorem form_data {f : Fr} (h : f.op = 0 ∨ f.op = 1 ∨ f.op = 2) (hk : f.masked = true ∨ f.key = [0, 0, 0, 0]) : check9 f ≠ 91 ∧ f.op ≠ 8 ∧ control9 f.op = false := by
  have hc : control9 f.op = false := decide_eq_false (by omega)
  refine ⟨?_, by omega, hc⟩
  have hf : form9 f = true := by
    have hk' : known9 f.op = true := decide_eq_true (by omega)
    unfold form9
    rw [hk', hc]
    rcases hk with h | h
    · rw [h]; simp
    · rw [h]; simp
  unfold check9
  rw [if_pos hf]
  split <;> omega
theorem form_ctl {f : Fr} (h : f.op = 9 ∨ f.op = 10) (hfin : f.fin = true) (hz : f.data.size ≤ 125) (hk : f.masked = true ∨ f.key = [0, 0, 0, 0]) : check9 f ≠ 91 ∧ f.op ≠ 8 ∧ control9 f.op = true := by
  have hc : control9 f.op = true := decide_eq_true (by omega)
  refine ⟨?_, by omega, hc⟩
  have hf : form9 f = true := by
    have hk' : known9 f.op = true := decide_eq_true (by omega)
    have hz' : decide (125 < f.data.size) = false := decide_eq_false (by omega)
    unfold form9
    rw [hk', hc, hfin, hz']
    rcases hk with h | h
    · rw [h]; simp
    · rw [h]; simp
  unfold check9
  rw [if_pos hf]
  split <;> omega
theorem mt_data {c : Mc} {f : Fr} (he : c.err = 0) (ho : c.over = false) (h : f.op = 0 ∨ f.op = 1 ∨ f.op = 2) (hk : f.masked = true ∨ f.key = [0, 0, 0, 0]) : mtake c f = mdata c f := by
  obtain ⟨h1, h2, h3⟩ := form_data h hk
  unfold mtake
  rw [if_neg (fun h => h he), if_neg (by rw [ho]; simp), if_neg h1, if_neg h2, if_neg (by rw [h3]; simp)]
theorem mt_ctl {c : Mc} {f : Fr} (he : c.err = 0) (ho : c.over = false) (h : f.op = 9 ∨ f.op = 10) (hfin : f.fin = true) (hz : f.data.size ≤ 125) (hk : f.masked = true ∨ f.key = [0, 0, 0, 0]) : mtake c f = (c, ⟨f.op, 0, f.data⟩, true, 0) := by
  obtain ⟨h1, h2, h3⟩ := form_ctl h hfin hz hk
  unfold mtake
  rw [if_neg (fun h => h he), if_neg (by rw [ho]; simp), if_neg h1, if_neg h2, if_pos h3]
theorem mt_still {c : Mc} (f : Fr) (h : c.err ≠ 0 ∨ c.over = true) : mtake c f = (c, Ev.zero, false, c.err) := by
  unfold mtake
  by_cases he : c.err = 0
  · rw [if_neg (fun h => h he), if_pos (by rcases h with h | h; exact absurd he h; exact h), he]
  · rw [if_pos he]
/-- Behind an error, or an end, nothing is kept. -/
def Mc.tidy (c : Mc) : Prop := (c.err = 0 ∧ c.over = false) ∨ c.part = ⟨#[]⟩
theorem mgo_tidy {c : Mc} (f : Fr) (he : c.err = 0) (ho : c.over = false) : (mgo c f).1.tidy := by
  unfold mgo
  split
  · exact .inr rfl
  split
  · split
    · exact .inr rfl
    split
    · exact .inl ⟨he, ho⟩
    · exact .inr rfl
  split
  · exact .inl ⟨he, ho⟩
  · exact .inr rfl
theorem mtake_tidy {c : Mc} (f : Fr) (h : c.tidy) : (mtake c f).1.tidy := by
  unfold mtake
  split
  · exact h
  rename_i h1
  have he : c.err = 0 := by
    by_cases h : c.err = 0
    · exact h
    · exact absurd h h1
  split
  · exact h
  rename_i h2
  have ho : c.over = false := by simpa using h2
  split
  · exact .inr rfl
  split
  · unfold mend
    split
    · exact .inr rfl
    · exact .inr rfl
  split
  · exact h
  · unfold mdata
    split
    · split
      · exact .inr rfl
      · exact mgo_tidy f he ho
    · split
      · exact mgo_tidy (c := { c with op := f.op, u := Uc.new }) f he ho
      · exact .inr rfl
theorem mtake_most (c : Mc) (f : Fr) : (mtake c f).1.most = c.most := by
  have hgo : ∀ (c : Mc) (f : Fr), (mgo c f).1.most = c.most := fun c f => by
    unfold mgo
    split
    · rfl
    split
    · split
      · rfl
      split <;> rfl
    split <;> rfl
  unfold mtake
  split
  · rfl
  split
  · rfl
  split
  · rfl
  split
  · unfold mend
    split <;> rfl
  split
  · rfl
  · unfold mdata
    split
    · split
      · rfl
      · exact hgo c f
    · split
      · exact hgo _ f
      · rfl
/-- Masks don't matter. -/
theorem mtake_mask (c : Mc) (fin : Bool) (op : Int) (k0 k1 k2 k3 : Int) (d : ByteArray) : mtake c ⟨fin, op, true, k0, k1, k2, k3, d⟩ = mtake c ⟨fin, op, false, 0, 0, 0, 0, d⟩ := by
  have hf : form9 ⟨fin, op, true, k0, k1, k2, k3, d⟩ = form9 ⟨fin, op, false, 0, 0, 0, 0, d⟩ := by
    unfold form9
    simp [Fr.key]
  have hc : check9 ⟨fin, op, true, k0, k1, k2, k3, d⟩ = check9 ⟨fin, op, false, 0, 0, 0, 0, d⟩ := by
    unfold check9
    rw [hf]
  unfold mtake
  rw [hc]
  rfl
/-- The begun message of another kind than letters: more of it, or its end. -/
theorem mgo_two (most : Int) (p : ByteArray) (u : Uc) (fin : Bool) (op : Int) (mk : Bool) (k0 k1 k2 k3 : Int) (d : ByteArray) : mgo ⟨most, 2, p, u, false, 0⟩ ⟨fin, op, mk, k0, k1, k2, k3, d⟩ =
    if most < p.size + d.size then (⟨most, 0, ⟨#[]⟩, u, false, 121⟩, Ev.zero, false, 121) else if fin = false then (⟨most, 2, p ++ d, u, false, 0⟩, Ev.zero, false, 0) else (⟨most, 0, ⟨#[]⟩, u, false, 0⟩, ⟨2, 0, p ++ d⟩, true, 0) := by
  unfold mgo
  simp only
  rw [if_neg (show ¬ ((2 : Int) = 1) by omega)]
  rfl
theorem empty_append (d : ByteArray) : (⟨#[]⟩ : ByteArray) ++ d = d := by
  apply ByteArray.ext
  simp
theorem mt_begin (most : Int) (u : Uc) (fin : Bool) (d : ByteArray) : mtake ⟨most, 0, ⟨#[]⟩, u, false, 0⟩ ⟨fin, 2, false, 0, 0, 0, 0, d⟩ =
    if most < d.size then (⟨most, 0, ⟨#[]⟩, Uc.new, false, 121⟩, Ev.zero, false, 121) else if fin = false then (⟨most, 2, d, Uc.new, false, 0⟩, Ev.zero, false, 0) else (⟨most, 0, ⟨#[]⟩, Uc.new, false, 0⟩, ⟨2, 0, d⟩, true, 0) := by
  rw [mt_data rfl rfl (.inr (.inr rfl)) (.inr rfl)]
  unfold mdata
  rw [if_neg (show ¬ ((2 : Int) = 0) by omega), if_pos rfl]
  rw [mgo_two, empty_append]
  have : ((⟨#[]⟩ : ByteArray).size : Int) + d.size = d.size := by
    show (0 : Int) + d.size = d.size
    omega
  rw [this]
theorem mt_more (most : Int) (p : ByteArray) (u : Uc) (fin : Bool) (d : ByteArray) : mtake ⟨most, 2, p, u, false, 0⟩ ⟨fin, 0, false, 0, 0, 0, 0, d⟩ =
    if most < p.size + d.size then (⟨most, 0, ⟨#[]⟩, u, false, 121⟩, Ev.zero, false, 121) else if fin = false then (⟨most, 2, p ++ d, u, false, 0⟩, Ev.zero, false, 0) else (⟨most, 0, ⟨#[]⟩, u, false, 0⟩, ⟨2, 0, p ++ d⟩, true, 0) := by
  rw [mt_data rfl rfl (.inl rfl) (.inr rfl)]
  unfold mdata
  rw [if_pos rfl, if_neg (show ¬ ((2 : Int) = 0) by omega), mgo_two]
end Go.Proofs.Ytkhppojlabajaaa
