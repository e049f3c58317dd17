/- close: Get; ref11: Get. | msg: the machine, as a plain function. | The checker's Right. | msg: New, Err, Over, Part, stop. -/
import Derived.Test.YtpadlcllcmodaaaY25
import Derived.Test.YtpadlcllcmodaaaY22
import Derived.Test.YtpadlcllcmodaaaY08
import Derived.Test.YtpadlcllcmodaaaY24
import Derived.Test.YtpadlcllcmodaaaY02
import Derived.Test.YtpadlcllcmodaaaY07
/- close: Get; ref11: Get. -/
namespace Go.Proofs.Ytpadlcllcmodaaa
open Go.RowKit
set_option linter.unusedSimpArgs false
set_option linter.unusedVariables false

def codeOf (s : ByteArray) : Int := (sb s).getD 0 0 * 256 + (sb s).getD 1 0
/-- The code and the words of an end's data. -/
def cget (s : ByteArray) : Int × ByteArray × Int :=
  if s.size = 0 then (1005, ⟨#[]⟩, 0)
  else if s.size < 2 ∨ 125 < s.size then (0, ⟨#[]⟩, 110)
  else if valid11 (codeOf s) = false then (0, ⟨#[]⟩, 110)
  else if lets (s.extract 2 s.size) = false then (0, ⟨#[]⟩, 111)
  else (codeOf s, s.extract 2 s.size, 0)

set_option maxHeartbeats 3200000 in
set_option maxRecDepth 100000 in
theorem c_get (s : ByteArray) (hs : s.size ≤ maxLen) (w : World) : Calls Try.prog 88 #[.string s] w fun e w' => e = .returned (.tuple #[.int .i64 (cget s).1, .string (cget s).2.1, .int .i64 (cget s).2.2]) ∧ Touch NoS w w' := by
  obtain ⟨R, hR⟩ : ∃ R, R = cget s := ⟨_, rfl⟩
  rw [← hR]
  unfold cget at hR
  by_cases h0 : s.size = 0
  · rw [if_pos h0] at hR
    obtain rfl : s = ⟨#[]⟩ := ByteArray.ext (Array.eq_empty_of_size_eq_zero h0)
    subst hR
    go_enter Try.func88, Try.ntmps88
    go_wp2
    refine bodyPost_ret (v := .tuple #[.int .i64 1005, .string ⟨#[]⟩, .int .i64 0]) (by simp [results, Try.results88, go_sem]) rfl ⟨rfl, Touch.refl _ _⟩
  rw [if_neg h0] at hR
  obtain ⟨hq1, hq2⟩ := str_ne s (by omega)
  by_cases h1 : s.size < 2
  · rw [if_pos (.inl h1)] at hR
    subst hR
    go_enter Try.func88, Try.ntmps88
    go_wp2
    refine bodyPost_ret (v := .tuple #[.int .i64 0, .string ⟨#[]⟩, .int .i64 110]) (by simp [results, Try.results88, go_sem]) rfl ⟨rfl, Touch.refl _ _⟩
  by_cases h2 : 125 < s.size
  · rw [if_pos (.inr h2)] at hR
    subst hR
    have h1' : 2 ≤ s.size := by omega
    clear h1
    go_enter Try.func88, Try.ntmps88
    go_wp2
    refine bodyPost_ret (v := .tuple #[.int .i64 0, .string ⟨#[]⟩, .int .i64 110]) (by simp [results, Try.results88, go_sem]) rfl ⟨rfl, Touch.refl _ _⟩
  rw [if_neg (by omega)] at hR
  have h1' : 2 ≤ s.size := by omega
  have h2' : s.size ≤ 125 := by omega
  clear h0 h1 h2
  obtain ⟨x, hx⟩ : ∃ x, x = (sb s).getD 0 0 := ⟨_, rfl⟩
  obtain ⟨v, hv⟩ : ∃ v, v = (sb s).getD 1 0 := ⟨_, rfl⟩
  have hx8 : 0 ≤ x ∧ x ≤ 255 := by rw [hx]; exact getD_in (sb_in s) 0 (by omega) 0
  have hv8 : 0 ≤ v ∧ v ≤ 255 := by rw [hv]; exact getD_in (sb_in s) 0 (by omega) 1
  have hxs : ((s[0].toNat : Nat) : Int) = x := by rw [hx, sb_getD s 0 (by omega)]
  have hvs : ((s[1].toNat : Nat) : Int) = v := by rw [hv, sb_getD s 1 (by omega)]
  have hcd : codeOf s = x * 256 + v := by unfold codeOf; rw [← hx, ← hv]
  rw [hcd] at hR
  have hor : bits .or .i64 (x * 256) v = x * 256 + v := bits_join .i64 63 (by decide) (fun n h0 h1 => IntWalk.i64_in n (by omega)) 8 _ _ (by omega) (by omega) (by omega) (by omega) (by omega) (by omega)
  have hw1 : IntKind.i64.wrap (x * 2 ^ 8) = x * 256 := by rw [IntWalk.i64_in _ (by omega)]; omega
  have hw2 : IntKind.i64.wrap (x * 256) = x * 256 := IntWalk.i64_in _ (by omega)
  obtain ⟨r, hr⟩ : ∃ r, r = s.extract 2 s.size := ⟨_, rfl⟩
  have hrz : r.size ≤ 125 := by rw [hr]; simp; omega
  have HRX := Lib.hid hr
  have HRR := Lib.hid hR
  have HV := Lib.hid (fun W => c_valid (x * 256 + v) W)
  have HCV := Lib.hid (fun W => conv_ex W r (by unfold maxLen; omega))
  obtain ⟨b, hb⟩ : ∃ b, b = lets r := ⟨_, rfl⟩
  have HB := Lib.hid hb
  obtain ⟨a, ha⟩ : ∃ a, a = valid11 (x * 256 + v) := ⟨_, rfl⟩
  have HA := Lib.hid ha
  rw [← ha] at HV
  have p0 : (0 : Int) < s.size := by omega
  have p1 : (1 : Int) < s.size := by omega
  have p2 : (2 : Int) ≤ s.size := by omega
  clear hx hv hcd hR hr hb ha hs
  go_enter Try.func88, Try.ntmps88
  go_wp2_with fail
  go_region
  rw [← HRX.out]
  go_wp2_with fail
  refine (HV.out _).mono ?_
  rintro e w1 ⟨rfl, ht⟩
  have HT1 : Hid (Touch NoS w w1) := (Touch.refl _ w).drew.trans ht
  clear ht
  cases a with
  | false =>
    have hR := HRR.out
    rw [if_pos HA.out.symm] at hR
    subst hR
    go_wp2
    refine bodyPost_ret (v := .tuple #[.int .i64 0, .string ⟨#[]⟩, .int .i64 110]) (by simp [results, Try.results88, go_sem]) rfl ⟨rfl, HT1.out⟩
  | true =>
    obtain ⟨w2, cp, hconv, ht, hrd, hcp, hcm, h23⟩ := HCV.out w1
    have HT2 := Lib.hid (HT1.out.trans ht)
    have HRD := Lib.hid hrd
    clear ht hrd hcp hcm HT1 HV
    go_wp2_with fail
    refine (u_validn _ (sb r) r.size cp (sb_length r) w2 HRD.out (sb_in r) (by intro a ha; injection ha with ha; subst ha; exact h23) (by omega)).mono ?_
    rintro e w3 ⟨rfl, ht⟩
    rw [show (ucount (sb r)).2 = b from HB.out.symm]
    have HT3 := Lib.hid (HT2.out.trans ht)
    clear ht HT2 HRD HCV hconv h23
    cases b with
    | false =>
      have hR := HRR.out
      rw [if_neg (by rw [← HA.out]; simp), ← HRX.out, if_pos HB.out.symm] at hR
      subst hR
      go_wp2
      refine bodyPost_ret (v := .tuple #[.int .i64 0, .string ⟨#[]⟩, .int .i64 111]) (by simp [results, Try.results88, go_sem]) rfl ⟨rfl, HT3.out⟩
    | true =>
      have hR := HRR.out
      rw [if_neg (by rw [← HA.out]; simp), ← HRX.out, if_neg (by rw [← HB.out]; simp)] at hR
      subst hR
      go_wp2
      refine bodyPost_ret (v := .tuple #[.int .i64 (x * 256 + v), .string r, .int .i64 0]) (by simp [results, Try.results88, go_sem]) rfl ⟨rfl, HT3.out⟩

end Go.Proofs.Ytpadlcllcmodaaa
/- msg: the machine, as a plain function. -/
namespace Go.Proofs.Ytpadlcllcmodaaa
set_option linter.unusedSimpArgs false
set_option linter.unusedVariables false

/-- What frames have come to: the bound, the message's kind that is begun (0: none), its bytes, its checker, whether an end came, what is wrong. -/
structure Mc where
  most : Int
  op : Int
  part : ByteArray
  u : Uc
  over : Bool
  err : Int
def Mc.new (most : Int) : Mc := ⟨most, 0, ⟨#[]⟩, Uc.new, false, 0⟩
def Mc.stop (c : Mc) (e : Int) : Mc := { c with err := e, op := 0, part := ⟨#[]⟩ }
/-- The data of a message's frame, once it is begun. -/
def mgo (c : Mc) (f : Fr) : Mc × Ev × Bool × Int :=
  if c.most < c.part.size + f.data.size then (c.stop 121, Ev.zero, false, 121)
  else if c.op = 1 then
    (if ((ufeed c.u (sb f.data)).1.bad || (f.fin && !(ufeed c.u (sb f.data)).1.whole)) = true then ({ c with u := (ufeed c.u (sb f.data)).1 }.stop 122, Ev.zero, false, 122)
     else if f.fin = false then ({ c with u := (ufeed c.u (sb f.data)).1, part := c.part ++ f.data }, Ev.zero, false, 0)
     else ({ c with u := (ufeed c.u (sb f.data)).1 }.stop 0, ⟨c.op, 0, c.part ++ f.data⟩, true, 0))
  else if f.fin = false then ({ c with part := c.part ++ f.data }, Ev.zero, false, 0)
  else (c.stop 0, ⟨c.op, 0, c.part ++ f.data⟩, true, 0)
def mdata (c : Mc) (f : Fr) : Mc × Ev × Bool × Int :=
  if f.op = 0 then (if c.op = 0 then (c.stop 120, Ev.zero, false, 120) else mgo c f)
  else if c.op = 0 then mgo { c with op := f.op, u := Uc.new } f else (c.stop 120, Ev.zero, false, 120)
def mend (c : Mc) (f : Fr) : Mc × Ev × Bool × Int :=
  if (cget f.data).2.2 = 0 then ({ c with over := true }.stop 0, ⟨8, (cget f.data).1, (cget f.data).2.1⟩, true, 0) else (c.stop (cget f.data).2.2, Ev.zero, false, (cget f.data).2.2)
def mtake (c : Mc) (f : Fr) : Mc × Ev × Bool × Int :=
  if c.err ≠ 0 then (c, Ev.zero, false, c.err)
  else if c.over = true then (c, Ev.zero, false, 0)
  else if check9 f = 91 then (c.stop 120, Ev.zero, false, 120)
  else if f.op = 8 then mend c f
  else if control9 f.op = true then (c, ⟨f.op, 0, f.data⟩, true, 0)
  else mdata c f
/-- What always holds of one. -/
structure Mc.good (c : Mc) : Prop where
  most : 1 ≤ c.most ∧ c.most ≤ 1048576
  op : c.op = 0 ∨ c.op = 1 ∨ c.op = 2
  ok : c.u.ok
  count : c.op = 1 → c.u.count ≤ c.part.size
  size : (c.part.size : Int) ≤ c.most
theorem Mc.new_good (most : Int) (h1 : 1 ≤ most) (h2 : most ≤ 1048576) : (Mc.new most).good := ⟨⟨h1, h2⟩, .inl rfl, new_ok, (fun h => (by cases h)), by show (0 : Int) ≤ most; omega⟩
theorem Mc.good.stop {c : Mc} (h : c.good) (e : Int) : (c.stop e).good := ⟨h.most, .inl rfl, h.ok, (fun h => (by cases h)), by have := h.most; show (0 : Int) ≤ c.most; omega⟩
theorem mgo_good {c : Mc} (h : c.good) (f : Fr) : (mgo c f).1.good := by
  unfold mgo
  split
  · exact h.stop _
  rename_i hs
  have hz : (c.part ++ f.data).size = c.part.size + f.data.size := ByteArray.size_append
  obtain ⟨k1, k2, k3, k4⟩ := ufeed_ok (sb f.data) h.ok
  split
  · rename_i h1
    split
    · exact ⟨h.most, .inl rfl, k1, (fun h => (by cases h)), by have := h.most; show (0 : Int) ≤ c.most; omega⟩
    · split
      · exact ⟨h.most, h.op, k1, fun _ => by have := h.count h1; rw [sb_length] at k2; show (ufeed c.u (sb f.data)).1.count ≤ ((c.part ++ f.data).size : Nat); omega, by show ((c.part ++ f.data).size : Int) ≤ c.most; omega⟩
      · exact ⟨h.most, .inl rfl, k1, (fun h => (by cases h)), by have := h.most; show (0 : Int) ≤ c.most; omega⟩
  · split
    · rename_i h1 _
      exact ⟨h.most, h.op, h.ok, fun h2 => absurd h2 h1, by show ((c.part ++ f.data).size : Int) ≤ c.most; omega⟩
    · exact h.stop _
theorem mdata_good {c : Mc} (h : c.good) (f : Fr) (hf : f.op = 0 ∨ f.op = 1 ∨ f.op = 2) : (mdata c f).1.good := by
  unfold mdata
  split
  · split
    · exact h.stop _
    · exact mgo_good h f
  · split
    · rename_i h0
      exact mgo_good (c := { c with op := f.op, u := Uc.new }) ⟨h.most, hf, new_ok, fun _ => by show (0 : Int) ≤ _; omega, h.size⟩ f
    · exact h.stop _
theorem mend_good {c : Mc} (h : c.good) (f : Fr) : (mend c f).1.good := by
  unfold mend
  split
  · exact ⟨h.most, .inl rfl, h.ok, (fun h => (by cases h)), by have := h.most; show (0 : Int) ≤ c.most; omega⟩
  · exact h.stop _
theorem check_op {f : Fr} (h : check9 f ≠ 91) : (8 ≤ f.op ∧ f.op ≤ 10) ∨ (0 ≤ f.op ∧ f.op ≤ 2) := by
  have hf : form9 f = true := by
    unfold check9 at h
    split at h
    · assumption
    · exact absurd rfl h
  unfold form9 at hf
  simp only [Bool.and_eq_true] at hf
  have := hf.1.1
  unfold known9 at this
  exact of_decide_eq_true this
theorem mtake_good {c : Mc} (h : c.good) (f : Fr) : (mtake c f).1.good := by
  unfold mtake
  split
  · exact h
  split
  · exact h
  split
  · exact h.stop _
  rename_i h1
  split
  · exact mend_good h f
  split
  · exact h
  rename_i h2
  refine mdata_good h f ?_
  have := check_op h1
  have h3 : ¬ (8 ≤ f.op ∧ f.op ≤ 10) := fun h => h2 (decide_eq_true h)
  omega
end Go.Proofs.Ytpadlcllcmodaaa
/- The checker's Right. -/
namespace Go.Proofs.Ytpadlcllcmodaaa
open Go.RowKit
set_option linter.unusedSimpArgs false
set_option linter.unusedVariables false

theorem u_right (g : Nat) (c : Uc) (w : World) (h : IsU w g c) : Calls Try.prog 92 #[.pointer (some ⟨g, 0, none⟩)] w fun e w' => e = .returned (.bool (!c.bad)) ∧ w = w' := by
  have h3 := h.cell 4
  simp [Uc.cs] at h3
  go_enter Try.func92, Try.ntmps92
  go_wp2
  go_ret
  exact ⟨rfl, rfl⟩
theorem u_reset (g : Nat) (c : Uc) (w : World) (h : IsU w g c) : Calls Try.prog 89 #[.pointer (some ⟨g, 0, none⟩)] w fun e w' => e = .returned (.tuple #[]) ∧ IsU w' g Uc.new ∧ Touch (At g) w w' := by
  have h0 := h.cell 0
  have h1 := h.cell 1
  have h2 := h.cell 2
  have h3 := h.cell 3
  have h4 := h.cell 4
  have f0 := h.frozen 0
  have f1 := h.frozen 1
  have f2 := h.frozen 2
  have f3 := h.frozen 3
  have f4 := h.frozen 4
  simp [Uc.cs] at h0 h1 h2 h3 h4
  have HB := Lib.hid h
  clear h
  go_enter Try.func89, Try.ntmps89
  go_wp2
  go_end0
  refine ⟨rfl, ?_, ((((((Touch.refl _ _).setAt _ _).setAt _ _).setAt _ _).setAt _ _).setAt _ _)⟩
  have := ((((HB.out.set_ 0 (.int .i64 0)).set_ 1 (.int .u8 0)).set_ 2 (.int .u8 0)).set_ 3 (.int .i64 0)).set_ 4 (.bool false)
  simpa [Uc.cs, IsU, Uc.new] using this
end Go.Proofs.Ytpadlcllcmodaaa
/- msg: New, Err, Over, Part, stop. -/
namespace Go.Proofs.Ytpadlcllcmodaaa
open Go.RowKit
set_option linter.unusedSimpArgs false
set_option linter.unusedVariables false

/-- A machine's cells. -/
def mCells (most op : Int) (v : Value) (cu : Nat) (over : Bool) (err : Int) : Array Value := #[.int .i64 most, .int .i64 op, v, .pointer (some ⟨cu, 0, none⟩), .bool over, .int .i64 err]
/-- The machine, its part's slice being v. -/
def IsMv (w : World) (base g cu : Nat) (c : Mc) (v : Value) : Prop :=
  Blk w g 97 (mCells c.most c.op v cu c.over c.err) ∧ w.ownsRow base 5 1 v c.part.size (u8s (sb c.part)) ∧ IsU w cu c.u
def IsM (w : World) (base g cu : Nat) (c : Mc) : Prop := ∃ v, IsMv w base g cu c v
/-- What the machine may write: itself, its checker, its part's row. -/
def MO (g cu : Nat) (v : Value) (k : Nat) : Prop := k = g ∨ k = cu ∨ v.ownBlock = some k

set_option maxHeartbeats 1600000 in
set_option maxRecDepth 100000 in
theorem m_stop (g : Nat) (most op : Int) (v : Value) (cu : Nat) (over : Bool) (err e : Int) (w : World) (hb : Blk w g 97 (mCells most op v cu over err)) :
    Calls Try.prog 66 #[.pointer (some ⟨g, 0, none⟩), .int .i64 e] w fun x w' => x = .returned (.tuple #[.agg #[.int .i64 0, .int .i64 0, .string ⟨#[]⟩], .bool false, .int .i64 e]) ∧
      Blk w' g 97 (mCells most 0 (.slice none 0 0) cu over e) ∧ Touch (At g) w w' := by
  have c1 := hb.cell 1
  have c2 := hb.cell 2
  have c5 := hb.cell 5
  have f1 := hb.frozen 1
  have f2 := hb.frozen 2
  have f5 := hb.frozen 5
  have hl := hb.lt
  simp [mCells] at c1 c2 c5
  have HB := Lib.hid hb
  clear hb
  go_enter Try.func66, Try.ntmps66
  go_wp2_with fail
  refine bodyPost_ret (v := .tuple #[.agg #[.int .i64 0, .int .i64 0, .string ⟨#[]⟩], .bool false, .int .i64 e]) (by simp [results, Try.results66, go_sem]) rfl ⟨rfl, ?_, ?_⟩
  · exact (((HB.out.set_ 5 (.int .i64 e)).set_ 1 (.int .i64 0)).set_ 2 (.slice none 0 0)).alloc _
  · exact (((((Touch.refl (At g) w).setAt 5 (.int .i64 e)).setAt 1 (.int .i64 0)).setAt 2 (.slice none 0 0))).alloc _
theorem m_part (g : Nat) (most op : Int) (A : Option Addr) (n c : Nat) (cu : Nat) (over : Bool) (err : Int) (w : World) (hb : Blk w g 97 (mCells most op (.slice A n c) cu over err)) :
    Calls Try.prog 40 #[.pointer (some ⟨g, 0, none⟩)] w fun x w' => x = .returned (.int .i64 n) ∧ w = w' := by
  have c5 := hb.cell 2
  simp [mCells] at c5
  go_enter Try.func40, Try.ntmps40
  go_wp2
  go_ret
  exact ⟨rfl, rfl⟩
set_option maxHeartbeats 1600000 in
set_option maxRecDepth 100000 in
theorem m_new (most : Int) (h1 : 1 ≤ most) (h2 : most ≤ 1048576) (w : World) : Calls Try.prog 29 #[.int .i64 most] w fun x w' =>
    ∃ g cu, x = .returned (.tuple #[.pointer (some ⟨g, 0, none⟩), .int .i64 0]) ∧ w.heap.size ≤ g ∧ w.heap.size ≤ cu ∧ IsMv w' w.heap.size g cu (Mc.new most) (.slice none 0 0) ∧ Touch NoS w w' := by
  go_enter Try.func29, Try.ntmps29
  go_wp2_with fail
  refine (u_new _).mono ?_
  rintro e w1 ⟨cu, rfl, hcu, hu, ht⟩
  have HU := Lib.hid hu
  have HT := Lib.hid ht
  clear hu ht
  go_wp2_with fail
  go_ret2
  exact ⟨w1.heap.size, cu, rfl, HT.out.size, hcu, ⟨Blk.new w1 _ _, own_nil _ _ _ _, HU.out.alloc _⟩, HT.out.alloc _⟩
set_option maxHeartbeats 1600000 in
set_option maxRecDepth 100000 in
theorem m_new_no (most : Int) (h : most < 1 ∨ 1048576 < most) (w : World) : Calls Try.prog 29 #[.int .i64 most] w fun x w' => x = .returned (.tuple #[.pointer none, .int .i64 123]) ∧ w = w' := by
  rcases h with h | h
  · go_enter Try.func29, Try.ntmps29
    go_wp2
    go_ret2
    exact ⟨rfl, rfl⟩
  · have h0 : 1 ≤ most := by omega
    go_enter Try.func29, Try.ntmps29
    go_wp2
    go_ret2
    exact ⟨rfl, rfl⟩
section
variable {w w' w0 : World} {base g cu : Nat} {c : Mc} {v : Value}
theorem IsMv.no (h : IsMv w base g cu c v) (k : Touch NoS w w') : IsMv w' base g cu c v :=
  ⟨h.1.touch k (fun h => h), own_no h.2.1 k, h.2.2.touch k (fun h => h)⟩
theorem IsMv.lt (h : IsMv w base g cu c v) : g < w.heap.size ∧ cu < w.heap.size := ⟨h.1.lt, h.2.2.lt⟩
theorem IsMv.row_lt (h : IsMv w base g cu c v) {b : Nat} (hb : v.ownBlock = some b) : base ≤ b ∧ b < w.heap.size := by
  obtain ⟨cs, hc⟩ := own_type h.2.1 hb
  exact ⟨own_base h.2.1 hb, hc.lt⟩
theorem IsMv.touch {S : Nat → Prop} (h : IsMv w base g cu c v) (k : Touch S w w') (h1 : ¬ S g) (h2 : ¬ S cu) (h3 : ∀ b, v.ownBlock = some b → ¬ S b) : IsMv w' base g cu c v :=
  ⟨h.1.touch k h1, own_touch h.2.1 k h3, h.2.2.touch k h2⟩
theorem IsMv.lower {base' : Nat} (h : IsMv w base g cu c v) (hb : base' ≤ base) : IsMv w base' g cu c v := ⟨h.1, own_lower h.2.1 hb, h.2.2⟩
theorem IsM.no (h : IsM w base g cu c) (k : Touch NoS w w') : IsM w' base g cu c := by
  obtain ⟨v, h⟩ := h
  exact ⟨v, h.no k⟩
/-- Rows and blocks of other types are as before. -/
theorem MO_own {b0 n size : Nat} {e : TypeId} {u : Value} {xs : List Value} (h : w.ownsRow b0 e size u n xs) (hs : IsMv w base g cu c v) (k : Touch (MO g cu v) w w') (h1 : e ≠ 5) (h2 : e ≠ 97) (h3 : e ≠ 119) : w'.ownsRow b0 e size u n xs :=
  own_touch h k fun b hb hS => by
    obtain ⟨hbs, ho, hu⟩ := hs
    rcases hS with rfl | rfl | hv
    · exact own_ne h hbs h2 hb
    · exact own_ne h hu h3 hb
    · obtain ⟨cs, hc⟩ := own_type ho hv
      exact own_ne h hc h1 hb
theorem MO_blk {b : Nat} {t : TypeId} {cs : Array Value} (h : Blk w b t cs) (hs : IsMv w base g cu c v) (k : Touch (MO g cu v) w w') (h1 : t ≠ 5) (h2 : b ≠ g) (h3 : b ≠ cu) : Blk w' b t cs :=
  h.touch k fun hS => by
    rcases hS with hS | hS | hv
    · exact h2 hS
    · exact h3 hS
    · obtain ⟨cs', hc⟩ := own_type hs.2.1 hv
      exact h.ne_ hc h1 rfl
theorem MO_old (h : Touch NoS w0 w) (hs : IsMv w base g cu c v) (k : Touch (MO g cu v) w w') (hb : w0.heap.size ≤ base) (hg : w0.heap.size ≤ g) (hcu : w0.heap.size ≤ cu) : Touch NoS w0 w' :=
  h.then_new k fun i hS => by
    rcases hS with rfl | rfl | hv
    · exact .inl hg
    · exact .inl hcu
    · have := own_base hs.2.1 hv
      exact .inl (by omega)
/-- Two machines whose rows are apart: one's act leaves the other one be. -/
theorem MO_other {base' g' cu' : Nat} {c' : Mc} {v' : Value} (hs : IsMv w base g cu c v) (h' : IsMv w base' g' cu' c' v') (k : Touch (MO g cu v) w w') (hg : g ≠ g') (hcu : cu ≠ cu') (hv : ∀ b, v'.ownBlock = some b → v.ownBlock ≠ some b) : IsMv w' base' g' cu' c' v' := by
  refine h'.touch k ?_ ?_ ?_
  · rintro (h | h | h)
    · exact hg h.symm
    · exact h'.1.ne_ hs.2.2 (by decide) h
    · obtain ⟨cs, hc⟩ := own_type hs.2.1 h
      exact h'.1.ne_ hc (by decide) rfl
  · rintro (h | h | h)
    · exact (Blk.ne_ hs.1 h'.2.2 (by decide)) h.symm
    · exact hcu h.symm
    · obtain ⟨cs, hc⟩ := own_type hs.2.1 h
      exact (Blk.ne_ h'.2.2 hc (by decide)) rfl
  · intro b hb hS
    rcases hS with rfl | rfl | h
    · exact own_ne h'.2.1 hs.1 (by decide) hb
    · exact own_ne h'.2.1 hs.2.2 (by decide) hb
    · exact hv b hb h
end
end Go.Proofs.Ytpadlcllcmodaaa
