/- The checker's Feed; Count, Valid. | The utf laws' own example: awake. | Strings as bytes, and what a beginning of bytes comes to. | close: Put. -/
import Derived.Test.YtpadlcllcmodaaaY24
import Derived.Test.YtpadlcllcmodaaaY02
import Derived.Test.YtpadlcllcmodaaaY23
import Derived.Test.YtpadlcllcmodaaaY09
import Derived.Lib.ConvBytes
import Derived.Lib.SlBytesConst
/- The checker's Feed; Count, Valid. -/
namespace Go.Proofs.Ytpadlcllcmodaaa
open Go.RowKit
set_option linter.unusedSimpArgs false
set_option linter.unusedVariables false

set_option maxHeartbeats 1600000 in
theorem u_feed (g : Nat) (c : Uc) (A : Option Addr) (l : List Int) (cap : Nat) (w : World) (h : IsU w g c) (hok : c.ok) (hr : Rd w A (u8s l)) (hb : bytesIn l) (hA : ∀ a, A = some a → a.block ≠ g) (hc : c.count + l.length ≤ 4611686018427387904) :
    Calls Try.prog 91 #[.pointer (some ⟨g, 0, none⟩), .slice A l.length cap] w fun e w' => e = .returned (.int .i64 (ufeed c l).2) ∧ IsU w' g (ufeed c l).1 ∧ Touch (At g) w w' := by
  have HU := Lib.hid h
  have HR := Lib.hid hr
  have HBI := Lib.hid hb
  have HAA := Lib.hid hA
  have hok0 := Lib.hid hok
  obtain ⟨_, _, _, _, _, _, hc0⟩ := hok
  clear h hr hb hA
  go_enter Try.func91, Try.ntmps91
  go_wp2_with fail
  go_loopw [9] (fun i wr => ∃ (k : Nat) (ck : Uc), k ≤ l.length ∧ i = .int .i64 k ∧ IsU wr g ck ∧ ck.ok ∧ ck.count ≤ c.count + k ∧ Hid (ufeed c l = ((ufeed ck (l.drop k)).1, (ufeed ck (l.drop k)).2 + k)) ∧ Touch (At g) w wr) (fun i _ => l.length - (intOf i).toNat)
  case atStart => exact ⟨0, c, by omega, rfl, HU.out, hok0.out, by omega, by simp [Hid], Touch.refl _ _⟩
  case round =>
    obtain ⟨k, ck, hk, rfl, hu, hck, hcc, hf, ht⟩ := hrel
    have HUk := Lib.hid hu
    have HTk := Lib.hid ht
    have HOk := Lib.hid hck
    have h4 := hu.cell 4
    have ff4 := hu.frozen 4
    simp [Uc.cs] at h4
    clear hu ht hck HU
    by_cases hlt : k < l.length
    · obtain ⟨b, hb⟩ : ∃ b, b = l[k] := ⟨_, rfl⟩
      obtain ⟨ga, off, rfl, hga, c0⟩ := u8s_at (HR.out.touch HTk.out (fun a ha => HAA.out a ha)) k hlt
      have hbb := HBI.out b (by rw [hb]; exact List.getElem_mem hlt)
      obtain ⟨hb0, hb1⟩ := hbb
      have hdrop : l.drop k = b :: l.drop (k + 1) := by rw [hb]; exact List.drop_eq_getElem_cons hlt
      rw [← hb] at c0
      have HD := Lib.hid hdrop
      clear hb hdrop
      cases hbad : ck.bad
      · rw [hbad] at h4
        have HBAD := Lib.hid hbad
        clear hbad
        cases htk : (utake ck b).2
        · have HTK := Lib.hid htk
          clear htk
          go_wp2_with fail
          refine (u_take g ck b _ HUk.out HOk.out hb0 hb1 (by omega)).mono ?_
          rintro e w2 ⟨rfl, hu2, ht2⟩
          have HU2 := Lib.hid hu2
          have HT2 := Lib.hid (HTk.out.trans ht2)
          have g4 := hu2.cell 4
          have gf4 := hu2.frozen 4
          simp [Uc.cs] at g4
          clear hu2 ht2 HUk h4 ff4
          rw [HTK.out]
          go_wp2
          go_ret
          have hfin : ufeed ck (b :: l.drop (k + 1)) = ({ (utake ck b).1 with bad := true }, 0) := by rw [ufeed, HBAD.out, HTK.out]; rfl
          have hF := hf.out
          rw [HD.out, hfin] at hF
          rw [hF]
          refine ⟨by simp, ?_, HT2.out.setAt _ _⟩
          have := HU2.out.set_ 4 (.bool true)
          simpa [Uc.cs, IsU] using this
        · have HTK := Lib.hid htk
          clear htk
          go_wp2_with fail
          refine (u_take g ck b _ HUk.out HOk.out hb0 hb1 (by omega)).mono ?_
          rintro e w2 ⟨rfl, hu2, ht2⟩
          have HU2 := Lib.hid hu2
          have HT2 := Lib.hid (HTk.out.trans ht2)
          clear hu2 ht2 HUk h4 ff4
          rw [HTK.out]
          go_wp2_with fail
          go_roundw
          case rel =>
            obtain ⟨r1, r2, r3⟩ := utake_ok HOk.out b
            refine ⟨k + 1, (utake ck b).1, by omega, by go_num, HU2.out, r1, by omega, ?_, HT2.out⟩
            have hF := hf.out
            have hstep : ufeed ck (b :: l.drop (k + 1)) = ((ufeed (utake ck b).1 (l.drop (k + 1))).1, (ufeed (utake ck b).1 (l.drop (k + 1))).2 + 1) := by rw [ufeed, HBAD.out, HTK.out]; rfl
            rw [HD.out, hstep] at hF
            rw [Hid, hF]
            simp; omega
          case measure => simp [intOf]; omega
      · rw [hbad] at h4
        have HBAD := Lib.hid hbad
        clear hbad
        go_wp2
        go_ret
        have hfin : ufeed ck (b :: l.drop (k + 1)) = (ck, 0) := by rw [ufeed, HBAD.out]; rfl
        have hF := hf.out
        rw [HD.out, hfin] at hF
        rw [hF]
        refine ⟨by simp, ?_, HTk.out.setAt _ _⟩
        have := HUk.out.set_ 4 (.bool true)
        have hb := HBAD.out
        simpa [Uc.cs, IsU, hb] using this
    · obtain rfl : k = l.length := by omega
      have hF := hf.out
      rw [List.drop_length] at hF
      have HF := Lib.hid hF
      clear hF
      go_wp2
      go_ret
      rw [HF.out]
      exact ⟨by simp [ufeed], by simpa [ufeed] using HUk.out, HTk.out⟩

def ucount (l : List Int) : Int × Bool := if (ufeed Uc.new l).1.whole = true then ((ufeed Uc.new l).1.count, true) else (0, false)
theorem new_ok : Uc.new.ok := by simp [Uc.new, Uc.ok]

set_option maxHeartbeats 800000 in
theorem u_count (A : Option Addr) (l : List Int) (cap : Nat) (w : World) (hr : Rd w A (u8s l)) (hb : bytesIn l) (hA : ∀ a, A = some a → a.block < w.heap.size) (hl : l.length ≤ 4611686018427387904) :
    Calls Try.prog 80 #[.slice A l.length cap] w fun e w' => e = .returned (.tuple #[.int .i64 (ucount l).1, .bool (ucount l).2]) ∧ Touch NoS w w' := by
  have HR := Lib.hid hr
  have HB := Lib.hid hb
  have HA := Lib.hid hA
  clear hr hb hA
  cases hw : (ufeed Uc.new l).1.whole
  · have hc : ucount l = (0, false) := by rw [ucount, hw]; rfl
    rw [hc]
    have HW := Lib.hid hw
    clear hc hw
    go_enter Try.func80, Try.ntmps80
    go_wp2_with fail
    refine (u_new _).mono ?_
    rintro e w1 ⟨g, rfl, hg, hu, ht⟩
    have HU := Lib.hid hu
    have HT := Lib.hid ht
    clear hu ht
    go_wp2_with fail
    refine (u_feed g Uc.new A l cap _ HU.out new_ok (HR.out.touch_no HT.out) HB.out (fun a ha => by have := HA.out a ha; omega) (by simp [Uc.new]; omega)).mono ?_
    rintro e w2 ⟨rfl, hu, ht⟩
    have HT2 := Lib.hid (HT.out.at_new ht hg)
    have HU2 := Lib.hid hu
    have h3 := hu.cell 3
    simp [Uc.cs] at h3
    clear hu ht HU
    go_wp2_with fail
    refine (u_whole g _ _ HU2.out).mono ?_
    rintro e w3 ⟨rfl, rfl⟩
    rw [HW.out]
    go_wp2
    go_ret2
    exact ⟨rfl, HT2.out⟩
  · have hc : ucount l = ((ufeed Uc.new l).1.count, true) := by rw [ucount, hw]; rfl
    rw [hc]
    have HW := Lib.hid hw
    clear hc hw
    go_enter Try.func80, Try.ntmps80
    go_wp2_with fail
    refine (u_new _).mono ?_
    rintro e w1 ⟨g, rfl, hg, hu, ht⟩
    have HU := Lib.hid hu
    have HT := Lib.hid ht
    clear hu ht
    go_wp2_with fail
    refine (u_feed g Uc.new A l cap _ HU.out new_ok (HR.out.touch_no HT.out) HB.out (fun a ha => by have := HA.out a ha; omega) (by simp [Uc.new]; omega)).mono ?_
    rintro e w2 ⟨rfl, hu, ht⟩
    have HT2 := Lib.hid (HT.out.at_new ht hg)
    have HU2 := Lib.hid hu
    have h3 := hu.cell 3
    simp [Uc.cs] at h3
    clear hu ht HU
    go_wp2_with fail
    refine (u_whole g _ _ HU2.out).mono ?_
    rintro e w3 ⟨rfl, rfl⟩
    rw [HW.out]
    go_wp2
    go_ret2
    exact ⟨rfl, HT2.out⟩
theorem u_valid (A : Option Addr) (l : List Int) (cap : Nat) (w : World) (hr : Rd w A (u8s l)) (hb : bytesIn l) (hA : ∀ a, A = some a → a.block < w.heap.size) (hl : l.length ≤ 4611686018427387904) :
    Calls Try.prog 58 #[.slice A l.length cap] w fun e w' => e = .returned (.bool (ucount l).2) ∧ Touch NoS w w' := by
  have HC := Lib.hid (u_count A l cap w hr hb hA hl)
  clear hr hb hA
  go_enter Try.func58, Try.ntmps58
  go_wp2_with fail
  refine HC.out.mono ?_
  rintro e w1 ⟨rfl, ht⟩
  have HT := Lib.hid ht
  clear ht
  go_wp2
  go_ret
  exact ⟨rfl, HT.out⟩
end Go.Proofs.Ytpadlcllcmodaaa
/- The utf laws' own example: awake. -/
namespace Go.Proofs.Ytpadlcllcmodaaa
open Go.RowKit
set_option linter.unusedSimpArgs false
set_option linter.unusedVariables false

theorem u_feed_ (g : Nat) (c : Uc) (A : Option Addr) (l : List Int) (cap : Nat) (c' : Uc) (n : Nat) (hres : ufeed c l = (c', n)) (w : World) (h : IsU w g c) (hok : c.ok) (hr : Rd w A (u8s l)) (hb : bytesIn l) (hA : ∀ a, A = some a → a.block ≠ g) (hc : c.count + l.length ≤ 4611686018427387904) :
    Calls Try.prog 91 #[.pointer (some ⟨g, 0, none⟩), .slice A l.length cap] w fun e w' => e = .returned (.int .i64 n) ∧ IsU w' g c' ∧ Touch (At g) w w' := by
  have := u_feed g c A l cap w h hok hr hb hA hc
  rwa [hres] at this
theorem u_valid_ (A : Option Addr) (l : List Int) (cap : Nat) (r : Bool) (hres : (ucount l).2 = r) (w : World) (hr : Rd w A (u8s l)) (hb : bytesIn l) (hA : ∀ a, A = some a → a.block < w.heap.size) (hl : l.length ≤ 4611686018427387904) :
    Calls Try.prog 58 #[.slice A l.length cap] w fun e w' => e = .returned (.bool r) ∧ Touch NoS w w' := by
  have := u_valid A l cap w hr hb hA hl
  rwa [hres] at this
theorem u_count_ (A : Option Addr) (l : List Int) (cap : Nat) (r : Int × Bool) (hres : ucount l = r) (w : World) (hr : Rd w A (u8s l)) (hb : bytesIn l) (hA : ∀ a, A = some a → a.block < w.heap.size) (hl : l.length ≤ 4611686018427387904) :
    Calls Try.prog 80 #[.slice A l.length cap] w fun e w' => e = .returned (.tuple #[.int .i64 r.1, .bool r.2]) ∧ Touch NoS w w' := by
  have := u_count A l cap w hr hb hA hl
  rwa [hres] at this
theorem IsU.no {w w' : World} {g : Nat} {c : Uc} (h : IsU w g c) (k : Touch NoS w w') : IsU w' g c := Blk.touch h k (fun h => h)
theorem IsU.lt {w : World} {g : Nat} {c : Uc} (h : IsU w g c) : g < w.heap.size := Blk.lt h

end Go.Proofs.Ytpadlcllcmodaaa
/- Strings as bytes, and what a beginning of bytes comes to. -/
namespace Go.Proofs.Ytpadlcllcmodaaa
open Go.RowKit
set_option linter.unusedSimpArgs false
set_option linter.unusedVariables false

/-- Behind a beginning. -/
theorem ufeed_take (l : List Int) : ∀ (c : Uc) (i : Nat), c.bad = false → (ufeed c (l.take i)).2 = min (min i l.length) (ufeed c l).2 ∧ ((ufeed c (l.take i)).1.bad = true ↔ (ufeed c l).2 < min i l.length) := by
  induction l with
  | nil => intro c i hb; simp [ufeed, hb]
  | cons b l ih =>
    intro c i hb
    cases i with
    | zero => simp [ufeed, hb]
    | succ i =>
      rw [List.take_succ_cons]
      cases ht : (utake c b).2
      · simp [ufeed, hb, ht]
      · have hb' : (utake c b).1.bad = false := by
          unfold utake ubegin
          repeat (first | split | exact hb)
        obtain ⟨h1, h2⟩ := ih (utake c b).1 i hb'
        simp only [ufeed, hb, ht, if_true, Bool.false_eq_true, if_false]
        constructor
        · rw [h1]; simp only [List.length_cons]; omega
        · rw [h2]; simp only [List.length_cons]; omega
theorem utake_bad (c : Uc) (b : Int) : (utake c b).1.bad = c.bad := by
  unfold utake ubegin
  repeat (first | split | rfl)
theorem ufeed_bad (l : List Int) : ∀ (c : Uc), c.bad = false → ((ufeed c l).1.bad = true ↔ (ufeed c l).2 < l.length) := by
  intro c hb
  have := (ufeed_take l c l.length hb).2
  simpa using this
/-- Bytes behind bytes. -/
theorem ufeed_append (a b : List Int) : ∀ (c : Uc), (ufeed c (a ++ b)).1 = (ufeed (ufeed c a).1 b).1 ∧ (ufeed c (a ++ b)).2 = (ufeed c a).2 + (ufeed (ufeed c a).1 b).2 := by
  induction a with
  | nil => intro c; simp [ufeed]
  | cons x a ih =>
    intro c
    cases hb : c.bad
    · cases ht : (utake c x).2
      · have hB : ∀ (d : Uc) (l : List Int), d.bad = true → ufeed d l = (d, 0) := fun d l hd => by cases l <;> simp [ufeed, hd]
        simp only [List.cons_append, ufeed, hb, ht, Bool.false_eq_true, if_false]
        rw [hB _ b rfl]
        exact ⟨rfl, rfl⟩
      · obtain ⟨h1, h2⟩ := ih (utake c x).1
        simp only [List.cons_append, ufeed, hb, ht, if_true, Bool.false_eq_true, if_false]
        rw [h1, h2]
        exact ⟨rfl, by omega⟩
    · have hB : ∀ (d : Uc) (l : List Int), d.bad = true → ufeed d l = (d, 0) := fun d l hd => by cases l <;> simp [ufeed, hd]
      rw [hB c _ hb, hB c _ hb]
      rw [hB c _ hb]
      exact ⟨rfl, rfl⟩

/-- The contracts, at a length that is written otherwise. -/
theorem u_feedn (g : Nat) (c : Uc) (A : Option Addr) (l : List Int) (n cap : Nat) (hn : l.length = n) (w : World) (h : IsU w g c) (hok : c.ok) (hr : Rd w A (u8s l)) (hb : bytesIn l) (hA : ∀ a, A = some a → a.block ≠ g) (hc : c.count + n ≤ 4611686018427387904) :
    Calls Try.prog 91 #[.pointer (some ⟨g, 0, none⟩), .slice A n cap] w fun e w' => e = .returned (.int .i64 (ufeed c l).2) ∧ IsU w' g (ufeed c l).1 ∧ Touch (At g) w w' := by
  subst hn
  exact u_feed g c A l cap w h hok hr hb hA hc
theorem u_countn (A : Option Addr) (l : List Int) (n cap : Nat) (hn : l.length = n) (w : World) (hr : Rd w A (u8s l)) (hb : bytesIn l) (hA : ∀ a, A = some a → a.block < w.heap.size) (hl : n ≤ 4611686018427387904) :
    Calls Try.prog 80 #[.slice A n cap] w fun e w' => e = .returned (.tuple #[.int .i64 (ucount l).1, .bool (ucount l).2]) ∧ Touch NoS w w' := by
  subst hn
  exact u_count A l cap w hr hb hA hl
theorem u_validn (A : Option Addr) (l : List Int) (n cap : Nat) (hn : l.length = n) (w : World) (hr : Rd w A (u8s l)) (hb : bytesIn l) (hA : ∀ a, A = some a → a.block < w.heap.size) (hl : n ≤ 4611686018427387904) :
    Calls Try.prog 58 #[.slice A n cap] w fun e w' => e = .returned (.bool (ucount l).2) ∧ Touch NoS w w' := by
  subst hn
  exact u_valid A l cap w hr hb hA hl
/-- At a new row. -/
theorem u_feedc (g : Nat) (c : Uc) (s : ByteArray) (n cap : Nat) (hn : s.size = n) (w : World) (h : IsU w g c) (hok : c.ok) (hc : c.count + n ≤ 4611686018427387904) :
    Calls Try.prog 91 #[.pointer (some ⟨g, 0, none⟩), .slice (some ⟨w.heap.size, 0, none⟩) n cap] (Lib.bytesWorld w 5 s) fun e w' => e = .returned (.int .i64 (ufeed c (sb s)).2) ∧ IsU w' g (ufeed c (sb s)).1 ∧ Touch (At g) w w' :=
  (u_feedn g c _ (sb s) n cap (by rw [sb_length]; exact hn) _ (h.no (conv_touch _ _ _)) hok (conv_rd _ _ _) (sb_in s) (by intro a ha; injection ha with ha; subst ha; have := h.lt; show w.heap.size ≠ g; omega) hc).mono
    fun e w' ⟨h1, h2, h3⟩ => ⟨h1, h2, (conv_touch w 5 s).of_no.trans h3⟩
theorem u_countc (s : ByteArray) (n cap : Nat) (hn : s.size = n) (w : World) (hl : n ≤ 4611686018427387904) :
    Calls Try.prog 80 #[.slice (some ⟨w.heap.size, 0, none⟩) n cap] (Lib.bytesWorld w 5 s) fun e w' => e = .returned (.tuple #[.int .i64 (ucount (sb s)).1, .bool (ucount (sb s)).2]) ∧ Touch NoS w w' :=
  (u_countn _ (sb s) n cap (by rw [sb_length]; exact hn) _ (conv_rd _ _ _) (sb_in s) (by intro a ha; injection ha with ha; subst ha; rw [Lib.bytesWorld_size]; show w.heap.size < _; omega) hl).mono
    fun e w' ⟨h1, h3⟩ => ⟨h1, (conv_touch w 5 s).trans h3⟩
theorem u_validc (s : ByteArray) (n cap : Nat) (hn : s.size = n) (w : World) (hl : n ≤ 4611686018427387904) :
    Calls Try.prog 58 #[.slice (some ⟨w.heap.size, 0, none⟩) n cap] (Lib.bytesWorld w 5 s) fun e w' => e = .returned (.bool (ucount (sb s)).2) ∧ Touch NoS w w' :=
  (u_validn _ (sb s) n cap (by rw [sb_length]; exact hn) _ (conv_rd _ _ _) (sb_in s) (by intro a ha; injection ha with ha; subst ha; rw [Lib.bytesWorld_size]; show w.heap.size < _; omega) hl).mono
    fun e w' ⟨h1, h3⟩ => ⟨h1, (conv_touch w 5 s).trans h3⟩
end Go.Proofs.Ytpadlcllcmodaaa
/- close: Put. -/
namespace Go.Proofs.Ytpadlcllcmodaaa
open Go.RowKit
set_option linter.unusedSimpArgs false
set_option linter.unusedVariables false

/-- Are bytes letters? -/
def lets (s : ByteArray) : Bool := (ucount (sb s)).2
theorem lets_eq (s : ByteArray) : lets s = (ufeed Uc.new (sb s)).1.whole := by
  unfold lets ucount
  cases h : (ufeed Uc.new (sb s)).1.whole <;> rfl
theorem valid11_le {n : Int} (h : valid11 n = true) : 1000 ≤ n ∧ n ≤ 4999 := by
  have := of_decide_eq_true h
  omega

end Go.Proofs.Ytpadlcllcmodaaa
