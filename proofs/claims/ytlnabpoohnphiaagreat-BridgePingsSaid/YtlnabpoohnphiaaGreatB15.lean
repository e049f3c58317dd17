/- close: Get; ref11: Get. | msg: the machine, as a plain function. | The checker's Right. | msg: New, Err, Over, Part, stop. | msg: data's inner function. | msg: end. -/
import Derived.Test.YtlnabpoohnphiaaGreatB14
import Derived.Test.YtlnabpoohnphiaaGreatB13
import Derived.Test.YtlnabpoohnphiaaGreatB05
import Derived.Test.YtlnabpoohnphiaaGreatB02
import Derived.Test.YtlnabpoohnphiaaGreatB04
import Derived.Test.YtlnabpoohnphiaaGreatB06
import Derived.Deep.RegionLawGrows
/- close: Get; ref11: Get. -/
namespace Go.Proofs.YtlnabpoohnphiaaGreat
open Go.RowKit
set_option linter.unusedSimpArgs false
set_option linter.unusedVariables false

def codeOf (s : ByteArray) : Int := (sb s).getD 0 0 * 256 + (sb s).getD 1 0
/-- The code and the words of an end's data. -/
def cget (s : ByteArray) : Int × ByteArray × Int :=
  if s.size = 0 then (1005, ⟨#[]⟩, 0)
  else if s.size < 2 ∨ 125 < s.size then (0, ⟨#[]⟩, 110)
  else if valid11 (codeOf s) = false then (0, ⟨#[]⟩, 110)
  else if lets (s.extract 2 s.size) = false then (0, ⟨#[]⟩, 111)
  else (codeOf s, s.extract 2 s.size, 0)

set_option maxHeartbeats 3200000 in
set_option maxRecDepth 100000 in
theorem c_get (s : ByteArray) (hs : s.size ≤ maxLen) (w : World) : Calls Tryz.prog 139 #[.string s] w fun e w' => e = .returned (.tuple #[.int .i64 (cget s).1, .string (cget s).2.1, .int .i64 (cget s).2.2]) ∧ Touch NoS w w' := by
  obtain ⟨R, hR⟩ : ∃ R, R = cget s := ⟨_, rfl⟩
  rw [← hR]
  unfold cget at hR
  by_cases h0 : s.size = 0
  · rw [if_pos h0] at hR
    obtain rfl : s = ⟨#[]⟩ := ByteArray.ext (Array.eq_empty_of_size_eq_zero h0)
    subst hR
    go_enter Tryz.func139, Tryz.ntmps139
    go_wp2
    refine bodyPost_ret (v := .tuple #[.int .i64 1005, .string ⟨#[]⟩, .int .i64 0]) (by simp [results, Tryz.results139, go_sem]) rfl ⟨rfl, Touch.refl _ _⟩
  rw [if_neg h0] at hR
  obtain ⟨hq1, hq2⟩ := str_ne s (by omega)
  by_cases h1 : s.size < 2
  · rw [if_pos (.inl h1)] at hR
    subst hR
    go_enter Tryz.func139, Tryz.ntmps139
    go_wp2
    refine bodyPost_ret (v := .tuple #[.int .i64 0, .string ⟨#[]⟩, .int .i64 110]) (by simp [results, Tryz.results139, go_sem]) rfl ⟨rfl, Touch.refl _ _⟩
  by_cases h2 : 125 < s.size
  · rw [if_pos (.inr h2)] at hR
    subst hR
    have h1' : 2 ≤ s.size := by omega
    clear h1
    go_enter Tryz.func139, Tryz.ntmps139
    go_wp2
    refine bodyPost_ret (v := .tuple #[.int .i64 0, .string ⟨#[]⟩, .int .i64 110]) (by simp [results, Tryz.results139, go_sem]) rfl ⟨rfl, Touch.refl _ _⟩
  rw [if_neg (by omega)] at hR
  have h1' : 2 ≤ s.size := by omega
  have h2' : s.size ≤ 125 := by omega
  clear h0 h1 h2
  obtain ⟨x, hx⟩ : ∃ x, x = (sb s).getD 0 0 := ⟨_, rfl⟩
  obtain ⟨v, hv⟩ : ∃ v, v = (sb s).getD 1 0 := ⟨_, rfl⟩
  have hx8 : 0 ≤ x ∧ x ≤ 255 := by rw [hx]; exact getD_in (sb_in s) 0 (by omega) 0
  have hv8 : 0 ≤ v ∧ v ≤ 255 := by rw [hv]; exact getD_in (sb_in s) 0 (by omega) 1
  have hxs : ((s[0].toNat : Nat) : Int) = x := by rw [hx, sb_getD s 0 (by omega)]
  have hvs : ((s[1].toNat : Nat) : Int) = v := by rw [hv, sb_getD s 1 (by omega)]
  have hcd : codeOf s = x * 256 + v := by unfold codeOf; rw [← hx, ← hv]
  rw [hcd] at hR
  have hor : bits .or .i64 (x * 256) v = x * 256 + v := bits_join .i64 63 (by decide) (fun n h0 h1 => IntWalk.i64_in n (by omega)) 8 _ _ (by omega) (by omega) (by omega) (by omega) (by omega) (by omega)
  have hw1 : IntKind.i64.wrap (x * 2 ^ 8) = x * 256 := by rw [IntWalk.i64_in _ (by omega)]; omega
  have hw2 : IntKind.i64.wrap (x * 256) = x * 256 := IntWalk.i64_in _ (by omega)
  obtain ⟨r, hr⟩ : ∃ r, r = s.extract 2 s.size := ⟨_, rfl⟩
  have hrz : r.size ≤ 125 := by rw [hr]; simp; omega
  have HRX := Lib.hid hr
  have HRR := Lib.hid hR
  have HV := Lib.hid (fun W => c_valid (x * 256 + v) W)
  have HCV := Lib.hid (fun W => conv_ex W r (by unfold maxLen; omega))
  obtain ⟨b, hb⟩ : ∃ b, b = lets r := ⟨_, rfl⟩
  have HB := Lib.hid hb
  obtain ⟨a, ha⟩ : ∃ a, a = valid11 (x * 256 + v) := ⟨_, rfl⟩
  have HA := Lib.hid ha
  rw [← ha] at HV
  have p0 : (0 : Int) < s.size := by omega
  have p1 : (1 : Int) < s.size := by omega
  have p2 : (2 : Int) ≤ s.size := by omega
  clear hx hv hcd hR hr hb ha hs
  go_enter Tryz.func139, Tryz.ntmps139
  go_wp2_with fail
  go_region
  rw [← HRX.out]
  go_wp2_with fail
  refine (HV.out _).mono ?_
  rintro e w1 ⟨rfl, ht⟩
  have HT1 : Hid (Touch NoS w w1) := (Touch.refl _ w).drew.trans ht
  clear ht
  cases a with
  | false =>
    have hR := HRR.out
    rw [if_pos HA.out.symm] at hR
    subst hR
    go_wp2
    refine bodyPost_ret (v := .tuple #[.int .i64 0, .string ⟨#[]⟩, .int .i64 110]) (by simp [results, Tryz.results139, go_sem]) rfl ⟨rfl, HT1.out⟩
  | true =>
    obtain ⟨w2, cp, hconv, ht, hrd, hcp, hcm, h23⟩ := HCV.out w1
    have HT2 := Lib.hid (HT1.out.trans ht)
    have HRD := Lib.hid hrd
    clear ht hrd hcp hcm HT1 HV
    go_wp2_with fail
    refine (u_validn _ (sb r) r.size cp (sb_length r) w2 HRD.out (sb_in r) (by intro a ha; injection ha with ha; subst ha; exact h23) (by omega)).mono ?_
    rintro e w3 ⟨rfl, ht⟩
    rw [show (ucount (sb r)).2 = b from HB.out.symm]
    have HT3 := Lib.hid (HT2.out.trans ht)
    clear ht HT2 HRD HCV hconv h23
    cases b with
    | false =>
      have hR := HRR.out
      rw [if_neg (by rw [← HA.out]; simp), ← HRX.out, if_pos HB.out.symm] at hR
      subst hR
      go_wp2
      refine bodyPost_ret (v := .tuple #[.int .i64 0, .string ⟨#[]⟩, .int .i64 111]) (by simp [results, Tryz.results139, go_sem]) rfl ⟨rfl, HT3.out⟩
    | true =>
      have hR := HRR.out
      rw [if_neg (by rw [← HA.out]; simp), ← HRX.out, if_neg (by rw [← HB.out]; simp)] at hR
      subst hR
      go_wp2
      refine bodyPost_ret (v := .tuple #[.int .i64 (x * 256 + v), .string r, .int .i64 0]) (by simp [results, Tryz.results139, go_sem]) rfl ⟨rfl, HT3.out⟩

end Go.Proofs.YtlnabpoohnphiaaGreat
/- msg: the machine, as a plain function. -/
namespace Go.Proofs.YtlnabpoohnphiaaGreat
set_option linter.unusedSimpArgs false
set_option linter.unusedVariables false

/-- What frames have come to: the bound, the message's kind that is begun (0: none), its bytes, its checker, whether an end came, what is wrong. -/
structure Mc where
  most : Int
  op : Int
  part : ByteArray
  u : Uc
  over : Bool
  err : Int
def Mc.new (most : Int) : Mc := ⟨most, 0, ⟨#[]⟩, Uc.new, false, 0⟩
def Mc.stop (c : Mc) (e : Int) : Mc := { c with err := e, op := 0, part := ⟨#[]⟩ }
/-- The data of a message's frame, once it is begun. -/
def mgo (c : Mc) (f : Fr) : Mc × Ev × Bool × Int :=
  if c.most < c.part.size + f.data.size then (c.stop 121, Ev.zero, false, 121)
  else if c.op = 1 then
    (if ((ufeed c.u (sb f.data)).1.bad || (f.fin && !(ufeed c.u (sb f.data)).1.whole)) = true then ({ c with u := (ufeed c.u (sb f.data)).1 }.stop 122, Ev.zero, false, 122)
     else if f.fin = false then ({ c with u := (ufeed c.u (sb f.data)).1, part := c.part ++ f.data }, Ev.zero, false, 0)
     else ({ c with u := (ufeed c.u (sb f.data)).1 }.stop 0, ⟨c.op, 0, c.part ++ f.data⟩, true, 0))
  else if f.fin = false then ({ c with part := c.part ++ f.data }, Ev.zero, false, 0)
  else (c.stop 0, ⟨c.op, 0, c.part ++ f.data⟩, true, 0)
def mdata (c : Mc) (f : Fr) : Mc × Ev × Bool × Int :=
  if f.op = 0 then (if c.op = 0 then (c.stop 120, Ev.zero, false, 120) else mgo c f)
  else if c.op = 0 then mgo { c with op := f.op, u := Uc.new } f else (c.stop 120, Ev.zero, false, 120)
def mend (c : Mc) (f : Fr) : Mc × Ev × Bool × Int :=
  if (cget f.data).2.2 = 0 then ({ c with over := true }.stop 0, ⟨8, (cget f.data).1, (cget f.data).2.1⟩, true, 0) else (c.stop (cget f.data).2.2, Ev.zero, false, (cget f.data).2.2)
def mtake (c : Mc) (f : Fr) : Mc × Ev × Bool × Int :=
  if c.err ≠ 0 then (c, Ev.zero, false, c.err)
  else if c.over = true then (c, Ev.zero, false, 0)
  else if check9 f = 91 then (c.stop 120, Ev.zero, false, 120)
  else if f.op = 8 then mend c f
  else if control9 f.op = true then (c, ⟨f.op, 0, f.data⟩, true, 0)
  else mdata c f
/-- What always holds of one. -/
structure Mc.good (c : Mc) : Prop where
  most : 1 ≤ c.most ∧ c.most ≤ 1048576
  op : c.op = 0 ∨ c.op = 1 ∨ c.op = 2
  ok : c.u.ok
  count : c.op = 1 → c.u.count ≤ c.part.size
  size : (c.part.size : Int) ≤ c.most
theorem Mc.new_good (most : Int) (h1 : 1 ≤ most) (h2 : most ≤ 1048576) : (Mc.new most).good := ⟨⟨h1, h2⟩, .inl rfl, new_ok, (fun h => (by cases h)), by show (0 : Int) ≤ most; omega⟩
theorem Mc.good.stop {c : Mc} (h : c.good) (e : Int) : (c.stop e).good := ⟨h.most, .inl rfl, h.ok, (fun h => (by cases h)), by have := h.most; show (0 : Int) ≤ c.most; omega⟩
theorem mgo_good {c : Mc} (h : c.good) (f : Fr) : (mgo c f).1.good := by
  unfold mgo
  split
  · exact h.stop _
  rename_i hs
  have hz : (c.part ++ f.data).size = c.part.size + f.data.size := ByteArray.size_append
  obtain ⟨k1, k2, k3, k4⟩ := ufeed_ok (sb f.data) h.ok
  split
  · rename_i h1
    split
    · exact ⟨h.most, .inl rfl, k1, (fun h => (by cases h)), by have := h.most; show (0 : Int) ≤ c.most; omega⟩
    · split
      · exact ⟨h.most, h.op, k1, fun _ => by have := h.count h1; rw [sb_length] at k2; show (ufeed c.u (sb f.data)).1.count ≤ ((c.part ++ f.data).size : Nat); omega, by show ((c.part ++ f.data).size : Int) ≤ c.most; omega⟩
      · exact ⟨h.most, .inl rfl, k1, (fun h => (by cases h)), by have := h.most; show (0 : Int) ≤ c.most; omega⟩
  · split
    · rename_i h1 _
      exact ⟨h.most, h.op, h.ok, fun h2 => absurd h2 h1, by show ((c.part ++ f.data).size : Int) ≤ c.most; omega⟩
    · exact h.stop _
theorem mdata_good {c : Mc} (h : c.good) (f : Fr) (hf : f.op = 0 ∨ f.op = 1 ∨ f.op = 2) : (mdata c f).1.good := by
  unfold mdata
  split
  · split
    · exact h.stop _
    · exact mgo_good h f
  · split
    · rename_i h0
      exact mgo_good (c := { c with op := f.op, u := Uc.new }) ⟨h.most, hf, new_ok, fun _ => by show (0 : Int) ≤ _; omega, h.size⟩ f
    · exact h.stop _
theorem mend_good {c : Mc} (h : c.good) (f : Fr) : (mend c f).1.good := by
  unfold mend
  split
  · exact ⟨h.most, .inl rfl, h.ok, (fun h => (by cases h)), by have := h.most; show (0 : Int) ≤ c.most; omega⟩
  · exact h.stop _
theorem check_op {f : Fr} (h : check9 f ≠ 91) : (8 ≤ f.op ∧ f.op ≤ 10) ∨ (0 ≤ f.op ∧ f.op ≤ 2) := by
  have hf : form9 f = true := by
    unfold check9 at h
    split at h
    · assumption
    · exact absurd rfl h
  unfold form9 at hf
  simp only [Bool.and_eq_true] at hf
  have := hf.1.1
  unfold known9 at this
  exact of_decide_eq_true this
theorem mtake_good {c : Mc} (h : c.good) (f : Fr) : (mtake c f).1.good := by
  unfold mtake
  split
  · exact h
  split
  · exact h
  split
  · exact h.stop _
  rename_i h1
  split
  · exact mend_good h f
  split
  · exact h
  rename_i h2
  refine mdata_good h f ?_
  have := check_op h1
  have h3 : ¬ (8 ≤ f.op ∧ f.op ≤ 10) := fun h => h2 (decide_eq_true h)
  omega
end Go.Proofs.YtlnabpoohnphiaaGreat
/- The checker's Right. -/
namespace Go.Proofs.YtlnabpoohnphiaaGreat
open Go.RowKit
set_option linter.unusedSimpArgs false
set_option linter.unusedVariables false

theorem u_right (g : Nat) (c : Uc) (w : World) (h : IsU w g c) : Calls Tryz.prog 143 #[.pointer (some ⟨g, 0, none⟩)] w fun e w' => e = .returned (.bool (!c.bad)) ∧ w = w' := by
  have h3 := h.cell 4
  simp [Uc.cs] at h3
  go_enter Tryz.func143, Tryz.ntmps143
  go_wp2
  go_ret
  exact ⟨rfl, rfl⟩
theorem u_reset (g : Nat) (c : Uc) (w : World) (h : IsU w g c) : Calls Tryz.prog 140 #[.pointer (some ⟨g, 0, none⟩)] w fun e w' => e = .returned (.tuple #[]) ∧ IsU w' g Uc.new ∧ Touch (At g) w w' := by
  have h0 := h.cell 0
  have h1 := h.cell 1
  have h2 := h.cell 2
  have h3 := h.cell 3
  have h4 := h.cell 4
  have f0 := h.frozen 0
  have f1 := h.frozen 1
  have f2 := h.frozen 2
  have f3 := h.frozen 3
  have f4 := h.frozen 4
  simp [Uc.cs] at h0 h1 h2 h3 h4
  have HB := Lib.hid h
  clear h
  go_enter Tryz.func140, Tryz.ntmps140
  go_wp2
  go_end0
  refine ⟨rfl, ?_, ((((((Touch.refl _ _).setAt _ _).setAt _ _).setAt _ _).setAt _ _).setAt _ _)⟩
  have := ((((HB.out.set_ 0 (.int .i64 0)).set_ 1 (.int .u8 0)).set_ 2 (.int .u8 0)).set_ 3 (.int .i64 0)).set_ 4 (.bool false)
  simpa [Uc.cs, IsU, Uc.new] using this
end Go.Proofs.YtlnabpoohnphiaaGreat
/- msg: New, Err, Over, Part, stop. -/
namespace Go.Proofs.YtlnabpoohnphiaaGreat
open Go.RowKit
set_option linter.unusedSimpArgs false
set_option linter.unusedVariables false

/-- A machine's cells. -/
def mCells (most op : Int) (v : Value) (cu : Nat) (over : Bool) (err : Int) : Array Value := #[.int .i64 most, .int .i64 op, v, .pointer (some ⟨cu, 0, none⟩), .bool over, .int .i64 err]
/-- The machine, its part's slice being v. -/
def IsMv (w : World) (base g cu : Nat) (c : Mc) (v : Value) : Prop :=
  Blk w g 143 (mCells c.most c.op v cu c.over c.err) ∧ w.ownsRow base 5 1 v c.part.size (u8s (sb c.part)) ∧ IsU w cu c.u
def IsM (w : World) (base g cu : Nat) (c : Mc) : Prop := ∃ v, IsMv w base g cu c v
/-- What the machine may write: itself, its checker, its part's row. -/
def MO (g cu : Nat) (v : Value) (k : Nat) : Prop := k = g ∨ k = cu ∨ v.ownBlock = some k

set_option maxHeartbeats 1600000 in
set_option maxRecDepth 100000 in
theorem m_stop (g : Nat) (most op : Int) (v : Value) (cu : Nat) (over : Bool) (err e : Int) (w : World) (hb : Blk w g 143 (mCells most op v cu over err)) :
    Calls Tryz.prog 123 #[.pointer (some ⟨g, 0, none⟩), .int .i64 e] w fun x w' => x = .returned (.tuple #[.agg #[.int .i64 0, .int .i64 0, .string ⟨#[]⟩], .bool false, .int .i64 e]) ∧
      Blk w' g 143 (mCells most 0 (.slice none 0 0) cu over e) ∧ Touch (At g) w w' := by
  have c1 := hb.cell 1
  have c2 := hb.cell 2
  have c5 := hb.cell 5
  have f1 := hb.frozen 1
  have f2 := hb.frozen 2
  have f5 := hb.frozen 5
  have hl := hb.lt
  simp [mCells] at c1 c2 c5
  have HB := Lib.hid hb
  clear hb
  go_enter Tryz.func123, Tryz.ntmps123
  go_wp2_with fail
  refine bodyPost_ret (v := .tuple #[.agg #[.int .i64 0, .int .i64 0, .string ⟨#[]⟩], .bool false, .int .i64 e]) (by simp [results, Tryz.results123, go_sem]) rfl ⟨rfl, ?_, ?_⟩
  · exact (((HB.out.set_ 5 (.int .i64 e)).set_ 1 (.int .i64 0)).set_ 2 (.slice none 0 0)).alloc _
  · exact (((((Touch.refl (At g) w).setAt 5 (.int .i64 e)).setAt 1 (.int .i64 0)).setAt 2 (.slice none 0 0))).alloc _
set_option maxHeartbeats 1600000 in
set_option maxRecDepth 100000 in
theorem m_new (most : Int) (h1 : 1 ≤ most) (h2 : most ≤ 1048576) (w : World) : Calls Tryz.prog 55 #[.int .i64 most] w fun x w' =>
    ∃ g cu, x = .returned (.tuple #[.pointer (some ⟨g, 0, none⟩), .int .i64 0]) ∧ w.heap.size ≤ g ∧ w.heap.size ≤ cu ∧ IsMv w' w.heap.size g cu (Mc.new most) (.slice none 0 0) ∧ Touch NoS w w' := by
  go_enter Tryz.func55, Tryz.ntmps55
  go_wp2_with fail
  refine (u_new _).mono ?_
  rintro e w1 ⟨cu, rfl, hcu, hu, ht⟩
  have HU := Lib.hid hu
  have HT := Lib.hid ht
  clear hu ht
  go_wp2_with fail
  go_ret2
  exact ⟨w1.heap.size, cu, rfl, HT.out.size, hcu, ⟨Blk.new w1 _ _, own_nil _ _ _ _, HU.out.alloc _⟩, HT.out.alloc _⟩
set_option maxHeartbeats 1600000 in
set_option maxRecDepth 100000 in
theorem m_new_no (most : Int) (h : most < 1 ∨ 1048576 < most) (w : World) : Calls Tryz.prog 55 #[.int .i64 most] w fun x w' => x = .returned (.tuple #[.pointer none, .int .i64 123]) ∧ w = w' := by
  rcases h with h | h
  · go_enter Tryz.func55, Tryz.ntmps55
    go_wp2
    go_ret2
    exact ⟨rfl, rfl⟩
  · have h0 : 1 ≤ most := by omega
    go_enter Tryz.func55, Tryz.ntmps55
    go_wp2
    go_ret2
    exact ⟨rfl, rfl⟩
section
variable {w w' w0 : World} {base g cu : Nat} {c : Mc} {v : Value}
theorem IsMv.no (h : IsMv w base g cu c v) (k : Touch NoS w w') : IsMv w' base g cu c v :=
  ⟨h.1.touch k (fun h => h), own_no h.2.1 k, h.2.2.touch k (fun h => h)⟩
theorem IsMv.lt (h : IsMv w base g cu c v) : g < w.heap.size ∧ cu < w.heap.size := ⟨h.1.lt, h.2.2.lt⟩
theorem IsMv.row_lt (h : IsMv w base g cu c v) {b : Nat} (hb : v.ownBlock = some b) : base ≤ b ∧ b < w.heap.size := by
  obtain ⟨cs, hc⟩ := own_type h.2.1 hb
  exact ⟨own_base h.2.1 hb, hc.lt⟩
theorem IsMv.touch {S : Nat → Prop} (h : IsMv w base g cu c v) (k : Touch S w w') (h1 : ¬ S g) (h2 : ¬ S cu) (h3 : ∀ b, v.ownBlock = some b → ¬ S b) : IsMv w' base g cu c v :=
  ⟨h.1.touch k h1, own_touch h.2.1 k h3, h.2.2.touch k h2⟩
theorem IsMv.lower {base' : Nat} (h : IsMv w base g cu c v) (hb : base' ≤ base) : IsMv w base' g cu c v := ⟨h.1, own_lower h.2.1 hb, h.2.2⟩
theorem IsM.no (h : IsM w base g cu c) (k : Touch NoS w w') : IsM w' base g cu c := by
  obtain ⟨v, h⟩ := h
  exact ⟨v, h.no k⟩
/-- Rows and blocks of other types are as before. -/
theorem MO_own {b0 n size : Nat} {e : TypeId} {u : Value} {xs : List Value} (h : w.ownsRow b0 e size u n xs) (hs : IsMv w base g cu c v) (k : Touch (MO g cu v) w w') (h1 : e ≠ 5) (h2 : e ≠ 143) (h3 : e ≠ 165) : w'.ownsRow b0 e size u n xs :=
  own_touch h k fun b hb hS => by
    obtain ⟨hbs, ho, hu⟩ := hs
    rcases hS with rfl | rfl | hv
    · exact own_ne h hbs h2 hb
    · exact own_ne h hu h3 hb
    · obtain ⟨cs, hc⟩ := own_type ho hv
      exact own_ne h hc h1 hb
theorem MO_blk {b : Nat} {t : TypeId} {cs : Array Value} (h : Blk w b t cs) (hs : IsMv w base g cu c v) (k : Touch (MO g cu v) w w') (h1 : t ≠ 5) (h2 : b ≠ g) (h3 : b ≠ cu) : Blk w' b t cs :=
  h.touch k fun hS => by
    rcases hS with hS | hS | hv
    · exact h2 hS
    · exact h3 hS
    · obtain ⟨cs', hc⟩ := own_type hs.2.1 hv
      exact h.ne_ hc h1 rfl
theorem MO_old (h : Touch NoS w0 w) (hs : IsMv w base g cu c v) (k : Touch (MO g cu v) w w') (hb : w0.heap.size ≤ base) (hg : w0.heap.size ≤ g) (hcu : w0.heap.size ≤ cu) : Touch NoS w0 w' :=
  h.then_new k fun i hS => by
    rcases hS with rfl | rfl | hv
    · exact .inl hg
    · exact .inl hcu
    · have := own_base hs.2.1 hv
      exact .inl (by omega)
/-- Two machines whose rows are apart: one's act leaves the other one be. -/
theorem MO_other {base' g' cu' : Nat} {c' : Mc} {v' : Value} (hs : IsMv w base g cu c v) (h' : IsMv w base' g' cu' c' v') (k : Touch (MO g cu v) w w') (hg : g ≠ g') (hcu : cu ≠ cu') (hv : ∀ b, v'.ownBlock = some b → v.ownBlock ≠ some b) : IsMv w' base' g' cu' c' v' := by
  refine h'.touch k ?_ ?_ ?_
  · rintro (h | h | h)
    · exact hg h.symm
    · exact h'.1.ne_ hs.2.2 (by decide) h
    · obtain ⟨cs, hc⟩ := own_type hs.2.1 h
      exact h'.1.ne_ hc (by decide) rfl
  · rintro (h | h | h)
    · exact (Blk.ne_ hs.1 h'.2.2 (by decide)) h.symm
    · exact hcu h.symm
    · obtain ⟨cs, hc⟩ := own_type hs.2.1 h
      exact (Blk.ne_ h'.2.2 hc (by decide)) rfl
  · intro b hb hS
    rcases hS with rfl | rfl | h
    · exact own_ne h'.2.1 hs.1 (by decide) hb
    · exact own_ne h'.2.1 hs.2.2 (by decide) hb
    · exact hv b hb h
end
end Go.Proofs.YtlnabpoohnphiaaGreat
/- msg: data's inner function. -/
namespace Go.Proofs.YtlnabpoohnphiaaGreat
open Go.RowKit
set_option linter.unusedSimpArgs false
set_option linter.unusedVariables false

def badText (u : Uc) (fin : Bool) : Bool := u.bad || (fin && !u.whole)
set_option maxHeartbeats 3200000 in
set_option maxRecDepth 100000 in
theorem m_wrong (Bm Bf g cu : Nat) (most op : Int) (v : Value) (over : Bool) (err : Int) (u : Uc) (f : Fr) (w : World) (hbm : Blk w Bm 104 #[.pointer (some ⟨g, 0, none⟩)]) (hbf : Blk w Bf 42 f.cs)
    (hb : Blk w g 143 (mCells most op v cu over err)) (hu : IsU w cu u) (hok : u.ok) (hz : f.data.size ≤ 100000000) (hc : u.count ≤ 100000000) :
    Calls Tryz.prog 141 #[.pointer (some ⟨Bm, 0, none⟩), .pointer (some ⟨Bf, 0, none⟩)] w fun x w' => x = .returned (.bool (badText (ufeed u (sb f.data)).1 f.fin)) ∧ IsU w' cu (ufeed u (sb f.data)).1 ∧ Touch (At cu) w w' := by
  have a0 := hbm.cell 0
  have b0 := hbf.cell 0
  have b7 := hbf.cell 7
  have c3 := hb.cell 3
  have l1 := hbm.lt
  have l2 := hbf.lt
  have l3 := hb.lt
  have l4 : cu < w.heap.size := hu.lt
  simp [mCells, Fr.cs] at a0 b0 b7 c3
  obtain ⟨w1, cp, hconv, ht, hrd, hcp, hcm, h23⟩ := conv_ex w.drew f.data (by unfold maxLen; omega)
  obtain ⟨u1, hu1⟩ : ∃ u1, u1 = (ufeed u (sb f.data)).1 := ⟨_, rfl⟩
  have HTT := Lib.hid ((Touch.refl NoS w).drew.trans ht)
  have HFD : Hid (Calls Tryz.prog 142 #[.pointer (some ⟨cu, 0, none⟩), .slice (some ⟨w.heap.size, 0, none⟩) f.data.size cp] w1 fun e w' => e = .returned (.int .i64 (ufeed u (sb f.data)).2) ∧ IsU w' cu u1 ∧ Touch (At cu) w1 w') := by
    have h := u_feed cu u (some ⟨w.heap.size, 0, none⟩) (sb f.data) cp w1 (Blk.touch (S := NoS) (w := w) hu HTT.out (fun h => h)) hok hrd (sb_in _) (fun a ha => by injection ha with ha; subst ha; show w.heap.size ≠ cu; omega) (by rw [sb_length]; omega)
    rw [sb_length, ← hu1] at h
    exact h
  have hbm1 := Lib.hid (hbm.touch HTT.out (fun h => h))
  have hbf1 := Lib.hid (hbf.touch HTT.out (fun h => h))
  have hb1 := Lib.hid (hb.touch HTT.out (fun h => h))
  have a0' := hbm1.out.cell 0
  have b0' := hbf1.out.cell 0
  have b7' := hbf1.out.cell 7
  have c3' := hb1.out.cell 3
  simp [mCells, Fr.cs] at a0' b0' b7' c3'
  have HM1 : Hid (104 ≠ 165) := by show _ ≠ _; decide
  have hne1 : Bm ≠ cu := hbm.ne_ hu (by decide)
  have hne2 : Bf ≠ cu := hbf.ne_ hu (by decide)
  have hne3 : g ≠ cu := hb.ne_ hu (by decide)
  obtain ⟨d, hd⟩ : ∃ d, d = f.data := ⟨_, rfl⟩
  obtain ⟨fin, hfin⟩ : ∃ d, d = f.fin := ⟨_, rfl⟩
  rw [← hu1, ← hfin]
  rw [← hd] at b7 b7' hconv HFD hu1 hz
  rw [← hfin] at b0 b0'
  obtain ⟨R, hRR⟩ : ∃ R, R = badText u1 fin := ⟨_, rfl⟩
  rw [← hRR]
  have HRR := Lib.hid hRR
  clear hRR
  have HHU := Lib.hid hu
  have HB := Lib.hid hb
  have HBM := Lib.hid hbm
  have HBF := Lib.hid hbf
  have HFIN := Lib.hid hfin
  clear hbm hbf hb hu hok hc ht hrd hcp hcm h23 hu1 hd hfin
  go_enter Tryz.func141, Tryz.ntmps141
  go_upto_region 1 with (fail)
  go_cut [] (fun wx => IsU wx cu u1 ∧ Touch (At cu) w wx)
  case first =>
    go_region_with ((go_at_call 142; refine HFD.out.mono ?_; rintro e w2 ⟨rfl, hu2, ht2⟩; have HU2 := Lib.hid hu2; have HT2 := Lib.hid ht2; clear hu2 ht2))
    all_goals
      go_wp2_with fail
      go_meet
      exact ⟨HU2.out, HTT.out.of_no.trans HT2.out⟩
  case rest =>
  obtain ⟨hu2, ht2⟩ := hcut
  have HB2 := Lib.hid (HB.out.touch ht2 hne3)
  have HBM2 := Lib.hid (HBM.out.touch ht2 hne1)
  have HBF2 := Lib.hid (HBF.out.touch ht2 hne2)
  have HU2 := Lib.hid hu2
  have HT2 := Lib.hid ht2
  clear hu2 ht2 a0 b0 b7 c3 a0' b0' b7' c3' hbm1 hbf1 hb1 hconv HFD
  have a0 := HBM2.out.cell 0
  have b0 := HBF2.out.cell 0
  have c3 := HB2.out.cell 3
  simp [mCells, Fr.cs] at a0 b0 c3
  rw [← HFIN.out] at b0
  obtain ⟨bd, hbd⟩ : ∃ b, b = u1.bad := ⟨_, rfl⟩
  obtain ⟨wh, hwh⟩ : ∃ b, b = u1.whole := ⟨_, rfl⟩
  have HRI := Lib.hid (u_right cu u1 wc HU2.out)
  have HWH := Lib.hid (u_whole cu u1 wc HU2.out)
  rw [← hbd] at HRI
  rw [← hwh] at HWH
  have HX : Hid (badText u1 fin = (bd || (fin && !wh))) := by show _ = _; rw [hbd, hwh]; rfl
  clear hbd hwh
  cases bd
  · cases fin
    · go_wp2_with fail
      refine HRI.out.mono ?_
      rintro e w3 ⟨rfl, rfl⟩
      go_wp2
      go_ret
      exact ⟨by rw [HRR.out, HX.out]; rfl, HU2.out, HT2.out⟩
    · go_wp2_with fail
      refine HRI.out.mono ?_
      rintro e w3 ⟨rfl, rfl⟩
      go_wp2_with fail
      refine HWH.out.mono ?_
      rintro e w3 ⟨rfl, rfl⟩
      cases wh
      all_goals
        go_wp2
        go_ret
        exact ⟨by rw [HRR.out, HX.out]; rfl, HU2.out, HT2.out⟩
  · go_wp2_with fail
    refine HRI.out.mono ?_
    rintro e w3 ⟨rfl, rfl⟩
    go_wp2
    go_ret
    exact ⟨by rw [HRR.out, HX.out]; rfl, HU2.out, HT2.out⟩
end Go.Proofs.YtlnabpoohnphiaaGreat
/- msg: end. -/
namespace Go.Proofs.YtlnabpoohnphiaaGreat
open Go.RowKit
set_option linter.unusedSimpArgs false
set_option linter.unusedVariables false

theorem ev_info : (Tryz.prog.info? 37).map (·.size) = some 3 := by kernel_rfl
theorem ev_one (a b : Int) (s : ByteArray) : (#[.int .i64 a, .int .i64 b, .string s] : Array Value).all (·.oneCell') = true := by simp [Value.oneCell']
theorem ev_load {w : World} {g : Nat} {t : TypeId} {cs : Array Value} (h : Blk w g t cs) (hs : cs.size = 3) : (loadVar 37 ⟨g, 0, none⟩).run Tryz.prog w = .ok (.agg cs) w :=
  run_loadVar_row w g t 37 cs (0, 0) _ h Tryz.underlying37 rfl (by rw [hs]; exact ev_info)
abbrev evAgg (e : Ev) : Array Value := #[.int .i64 e.op, .int .i64 e.code, .string e.data]
theorem end_results (tmps : Array Value) (w : World) (x : Ev) (g : Nat) (b : Bool) (e : Int) (h4 : tmps.getD 4 undef = .pointer (some ⟨g, 0, none⟩)) (h5 : tmps.getD 5 undef = .bool b) (h6 : tmps.getD 6 undef = .int .i64 e)
    (hb : Blk w g 37 (evAgg x)) : (results Tryz.f124 tmps).run Tryz.prog w = .ok (.tuple #[.agg (evAgg x), .bool b, .int .i64 e]) w := by
  have hld := ev_load hb rfl
  obtain ⟨a, b, c⟩ := x
  have c0 := hb.cell 0
  have c1 := hb.cell 1
  have c2 := hb.cell 2
  simp only [Array.getD_eq_getD_getElem?] at h4 h5 h6
  simp [evAgg] at c0 c1 c2
  simp [results, Tryz.results124, go_sem, h4, h5, h6, c0, c1, c2, hld]

set_option maxHeartbeats 3200000 in
set_option maxRecDepth 100000 in
theorem m_end (base g cu : Nat) (c : Mc) (f : Fr) (hz : f.data.size ≤ maxLen) (w : World) (v : Value) (h : IsMv w base g cu c v) (hbs : base ≤ w.heap.size) :
    Calls Tryz.prog 124 #[.pointer (some ⟨g, 0, none⟩), .agg f.cs] w fun x w' => x = .returned (.tuple #[.agg (evAgg (mend c f).2.1), .bool (mend c f).2.2.1, .int .i64 (mend c f).2.2.2]) ∧ (∃ v1, IsMv w' base g cu (mend c f).1 v1 ∧ Loc w v v1) ∧ Touch (MO g cu v) w w' := by
  obtain ⟨hb, ho, hu⟩ := h
  obtain ⟨code, words, er, hG⟩ : ∃ code words er, cget f.data = (code, words, er) := ⟨_, _, _, rfl⟩
  have HG := Lib.hid (fun W => c_get f.data hz W)
  rw [hG] at HG
  have hM : mend c f = if er = 0 then ({ c with over := true }.stop 0, ⟨8, code, words⟩, true, 0) else (c.stop er, Ev.zero, false, er) := by unfold mend; rw [hG]
  obtain ⟨R, hR⟩ : ∃ R, R = mend c f := ⟨_, rfl⟩
  rw [← hR]
  have HR := Lib.hid (hR.trans hM)
  obtain ⟨d, hd⟩ : ∃ d, d = f.data := ⟨_, rfl⟩
  rw [← hd] at HG
  have HU := Lib.hid hu
  have HB := Lib.hid hb
  obtain ⟨fin, op, masked, k0, k1, k2, k3, d'⟩ := f
  simp only [Fr.cs] at *
  subst hd
  clear hb ho hu hG hM hz hR
  go_enter Tryz.func124, Tryz.ntmps124
  go_wp2_with fail
  refine (HG.out _).mono ?_
  rintro e w1 ⟨rfl, ht⟩
  have HBR := Lib.hid (Blk.touch (by simpa using Blk.new (w.alloc (.cells #[.bool fin, .int .i64 op, .bool masked, .int .u8 k0, .int .u8 k1, .int .u8 k2, .int .u8 k3, .string d] 42)) 37 #[.int .i64 0, .int .i64 0, .string ⟨#[]⟩] : Blk _ (w.heap.size + 1) 37 #[.int .i64 0, .int .i64 0, .string ⟨#[]⟩]) ht (fun h => h))
  have HT := Lib.hid ((((Touch.refl NoS w).alloc (.cells #[.bool fin, .int .i64 op, .bool masked, .int .u8 k0, .int .u8 k1, .int .u8 k2, .int .u8 k3, .string d] 42)).alloc (.cells #[.int .i64 0, .int .i64 0, .string ⟨#[]⟩] 37)).trans ht)
  have HB1 := Lib.hid (HB.out.touch HT.out (fun h => h))
  have HU1 := Lib.hid (Blk.touch (S := NoS) (w := w) HU.out HT.out (fun h => h))
  have hne : w.heap.size + 1 ≠ g := HBR.out.ne_ HB1.out (by decide)
  have hnu : cu ≠ g := Blk.ne_ HU1.out HB1.out (by decide)
  have hnl := hbs
  clear ht HG
  by_cases her : er = 0
  · subst her
    rw [if_pos rfl] at HR
    have c4 := HB1.out.cell 4
    have f4 := HB1.out.frozen 4
    have hl := HB1.out.lt
    simp [mCells] at c4
    have HB2 : Hid (Blk (w1.setCell ⟨g, 4, none⟩ (.bool true)) g 143 (mCells c.most c.op v cu true c.err)) := HB1.out.set_ 4 _
    go_wp2_with fail
    refine (m_stop g c.most c.op v cu true c.err 0 _ HB2.out).mono ?_
    rintro e w2 ⟨rfl, hb3, ht3⟩
    have HT3 := Lib.hid (((Touch.refl (At g) w1).setAt 4 (.bool true)).trans ht3)
    have HB3 := Lib.hid hb3
    have HBR3 := Lib.hid (HBR.out.touch HT3.out hne)
    have HU3 := Lib.hid (Blk.touch (w := w1) HU1.out HT3.out hnu)
    clear hb3 ht3 c4 f4 HB2
    go_wp2_with (refine wpList_store_row rfl 37 (.tmp 4) (.tmp 32) rfl (w.heap.size + 1) #[.int .i64 8, .int .i64 code, .string words] rfl rfl 37 #[.int .i64 0, .int .i64 0, .string ⟨#[]⟩] HBR3.out ev_info rfl (ev_one _ _ _) ?_)
    have hbr : Blk (w2.setRow (w.heap.size + 1) #[.int .i64 8, .int .i64 code, .string words]) (w.heap.size + 1) 37 (evAgg ⟨8, code, words⟩) := HBR3.out.row
    have htr : Touch NoS w1 w1 := Touch.refl _ _
    have hfar : ∀ k, k ≠ w.heap.size + 1 → (w2.setRow (w.heap.size + 1) #[.int .i64 8, .int .i64 code, .string words]).heap[k]? = w2.heap[k]? := fun k hk => setRow_other w2 _ k _ hk
    refine bodyPost_ret (v := .tuple #[.agg (evAgg ⟨8, code, words⟩), .bool true, .int .i64 0]) (end_results _ _ ⟨8, code, words⟩ _ _ _ rfl rfl rfl hbr) rfl ?_
    rw [HR.out]
    refine ⟨rfl, ⟨.slice none 0 0, ⟨?_, own_nil _ _ _ _, ?_⟩, Loc.nil_ _ _⟩, ?_⟩
    · exact (hfar g (fun h => hne h.symm)).trans HB3.out
    · exact (hfar cu (by have := HU.out.lt; omega)).trans HU3.out
    · exact (((HT.out.of_no : Touch (At g) w w1).trans HT3.out).row (by omega) _).mono (fun k hk => .inl hk)
  · have HER := Lib.hid her
    rw [if_neg her] at HR
    have hq : (er != 0) = true := by rw [bne_iff_ne]; exact her
    go_wp2_with fail
    refine (m_stop g c.most c.op v cu c.over c.err er _ HB1.out).mono ?_
    rintro e w2 ⟨rfl, hb3, ht3⟩
    have HT3 := Lib.hid ht3
    have HB3 := Lib.hid hb3
    have HBR3 := Lib.hid (HBR.out.touch HT3.out hne)
    have HU3 := Lib.hid (Blk.touch (w := w1) HU1.out HT3.out hnu)
    clear hb3 ht3
    go_wp2_with (refine wpList_store_row rfl 37 (.tmp 4) (.tmp 22) rfl (w.heap.size + 1) #[.int .i64 0, .int .i64 0, .string ⟨#[]⟩] rfl rfl 37 #[.int .i64 0, .int .i64 0, .string ⟨#[]⟩] HBR3.out ev_info rfl (ev_one _ _ _) ?_; rw [setRow_same HBR3.out])
    refine bodyPost_ret (v := .tuple #[.agg (evAgg Ev.zero), .bool false, .int .i64 er]) (end_results _ _ Ev.zero _ _ _ rfl rfl rfl HBR3.out) rfl ?_
    rw [HR.out]
    exact ⟨rfl, ⟨.slice none 0 0, ⟨HB3.out, own_nil _ _ _ _, HU3.out⟩, Loc.nil_ _ _⟩, ((HT.out.of_no : Touch (At g) w w1).trans HT3.out).mono (fun k hk => .inl hk)⟩
end Go.Proofs.YtlnabpoohnphiaaGreat
