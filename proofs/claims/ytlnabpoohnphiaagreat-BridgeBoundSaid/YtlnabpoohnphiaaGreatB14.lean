/- The checker's small functions: New, Right, Whole, Reset, begin, take. | The checker's Feed; Count, Valid. | The utf laws' own example: awake. | Strings as bytes, and what a beginning of bytes comes to. | close: Put. -/
import Derived.Test.YtlnabpoohnphiaaGreatB13
import Derived.Test.YtlnabpoohnphiaaGreatB01
import Derived.Test.YtlnabpoohnphiaaGreatB05
import Derived.Test.YtlnabpoohnphiaaGreatProg
import Derived.KernelRfl
import Derived.BigQuiet
import Derived.Deep.QuietTactic
import Derived.RegionTactic
import Derived.ChangeAlike
import Derived.Lib.ConvBytes
import Derived.Lib.SlBytesConst
/- The checker's small functions: New, Right, Whole, Reset, begin, take. -/
namespace Go.Proofs.YtlnabpoohnphiaaGreat
open Go.RowKit
set_option linter.unusedSimpArgs false
set_option linter.unusedVariables false

def Uc.cs (c : Uc) : Array Value := #[.int .i64 c.left, .int .u8 c.lo, .int .u8 c.hi, .int .i64 c.count, .bool c.bad]
def IsU (w : World) (g : Nat) (c : Uc) : Prop := Blk w g 165 c.cs

theorem u_new (w : World) : Calls Tryz.prog 80 #[] w fun e w' => ∃ g, e = .returned (.pointer (some ⟨g, 0, none⟩)) ∧ w.heap.size ≤ g ∧ IsU w' g Uc.new ∧ Touch NoS w w' := by
  go_enter Tryz.func80, Tryz.ntmps80
  go_wp2
  go_ret
  exact ⟨_, rfl, Nat.le_refl _, Blk.new _ _ _, (Touch.refl _ _).alloc _⟩
theorem u_whole (g : Nat) (c : Uc) (w : World) (h : IsU w g c) : Calls Tryz.prog 144 #[.pointer (some ⟨g, 0, none⟩)] w fun e w' => e = .returned (.bool c.whole) ∧ w = w' := by
  have h3 := h.cell 4
  have h0 := h.cell 0
  simp [Uc.cs] at h3 h0
  cases hb : c.bad
  · rw [hb] at h3
    have hw : c.whole = (c.left == 0) := by simp only [Uc.whole, hb, Bool.not_false, Bool.true_and]; by_cases h : c.left = 0 <;> simp [h]
    rw [hw]
    clear hw hb
    go_enter Tryz.func144, Tryz.ntmps144
    go_wp2
    go_ret
    exact ⟨rfl, rfl⟩
  · rw [hb] at h3
    have hw : c.whole = false := by simp [Uc.whole, hb]
    rw [hw]
    clear hw hb
    go_enter Tryz.func144, Tryz.ntmps144
    go_wp2
    go_ret
    exact ⟨rfl, rfl⟩
set_option maxHeartbeats 1600000 in
theorem u_begin (g : Nat) (c : Uc) (b : Int) (w : World) (h : IsU w g c) (hok : c.ok) (hb0 : 0 ≤ b) (hb1 : b ≤ 255) (hc : c.count ≤ 4611686018427387904) :
    Calls Tryz.prog 154 #[.pointer (some ⟨g, 0, none⟩), .int .u8 b] w fun e w' => e = .returned (.bool (ubegin c b).2) ∧ IsU w' g (ubegin c b).1 ∧ Touch (At g) w w' := by
  have h0 := h.cell 0
  have h1 := h.cell 1
  have h2 := h.cell 2
  have h3 := h.cell 3
  have h4 := h.cell 4
  have f0 := h.frozen 0
  have f1 := h.frozen 1
  have f2 := h.frozen 2
  have f3 := h.frozen 3
  simp [Uc.cs] at h0 h1 h2 h3 h4
  obtain ⟨k0, k1, k2, k3, k4, k5, k6⟩ := hok
  have HB := Lib.hid h
  clear h
  by_cases t1 : b < 128
  · have hr : ubegin c b = (⟨c.left, 128, 191, c.count + 1, c.bad⟩, true) := by
      unfold ubegin
      rw [if_pos t1]
    rw [hr]
    clear hr
    go_enter Tryz.func154, Tryz.ntmps154
    go_wp2
    go_ret
    refine ⟨rfl, ?_, ?_⟩
    · have := ((HB.out.set_ 1 (.int .u8 128)).set_ 2 (.int .u8 191)).set_ 3 (.int .i64 (c.count + 1))
      simpa [Uc.cs, IsU] using this
    · repeat (with_reducible first | exact Touch.refl _ _ | refine Touch.setAt ?_ _ _)
  by_cases t2 : 194 ≤ b ∧ b ≤ 223
  · obtain ⟨u1, u2⟩ := t2
    have hr : ubegin c b = (⟨1, 128, 191, c.count, c.bad⟩, true) := by
      unfold ubegin
      rw [if_neg t1, if_pos ⟨u1, u2⟩]
    rw [hr]
    clear hr
    go_enter Tryz.func154, Tryz.ntmps154
    go_wp2
    go_ret
    refine ⟨rfl, ?_, ?_⟩
    · have := ((HB.out.set_ 1 (.int .u8 128)).set_ 2 (.int .u8 191)).set_ 0 (.int .i64 1)
      simpa [Uc.cs, IsU] using this
    · repeat (with_reducible first | exact Touch.refl _ _ | refine Touch.setAt ?_ _ _)
  by_cases t3 : 224 ≤ b ∧ b ≤ 239
  · obtain ⟨u1, u2⟩ := t3
    by_cases s1 : b = 224
    · subst s1
      have hr : ubegin c 224 = (⟨2, 160, 191, c.count, c.bad⟩, true) := by
        unfold ubegin
        rfl
      rw [hr]
      clear hr
      go_enter Tryz.func154, Tryz.ntmps154
      go_wp2
      go_ret
      refine ⟨rfl, ?_, ?_⟩
      · have := (((HB.out.set_ 1 (.int .u8 128)).set_ 2 (.int .u8 191)).set_ 0 (.int .i64 2)).set_ 1 (.int .u8 160)
        simpa [Uc.cs, IsU] using this
      · repeat (with_reducible first | exact Touch.refl _ _ | refine Touch.setAt ?_ _ _)
    by_cases s2 : b = 237
    · subst s2
      have hr : ubegin c 237 = (⟨2, 128, 159, c.count, c.bad⟩, true) := by
        unfold ubegin
        rfl
      rw [hr]
      clear hr
      go_enter Tryz.func154, Tryz.ntmps154
      go_wp2
      go_ret
      refine ⟨rfl, ?_, ?_⟩
      · have := (((HB.out.set_ 1 (.int .u8 128)).set_ 2 (.int .u8 191)).set_ 0 (.int .i64 2)).set_ 2 (.int .u8 159)
        simpa [Uc.cs, IsU] using this
      · repeat (with_reducible first | exact Touch.refl _ _ | refine Touch.setAt ?_ _ _)
    have n224 : (b == 224) = false := by rw [beq_eq_false_iff_ne]; omega
    have n237 : (b == 237) = false := by rw [beq_eq_false_iff_ne]; omega
    have n240 : (b == 240) = false := by rw [beq_eq_false_iff_ne]; omega
    have n244 : (b == 244) = false := by rw [beq_eq_false_iff_ne]; omega
    have hr : ubegin c b = (⟨2, 128, 191, c.count, c.bad⟩, true) := by
      unfold ubegin
      rw [if_neg t1, if_neg (by omega), if_pos ⟨u1, u2⟩, if_neg s1, if_neg s2]
    rw [hr]
    clear hr
    go_enter Tryz.func154, Tryz.ntmps154
    go_wp2
    go_ret
    refine ⟨rfl, ?_, ?_⟩
    · have := ((HB.out.set_ 1 (.int .u8 128)).set_ 2 (.int .u8 191)).set_ 0 (.int .i64 2)
      simpa [Uc.cs, IsU] using this
    · repeat (with_reducible first | exact Touch.refl _ _ | refine Touch.setAt ?_ _ _)
  by_cases t4 : 240 ≤ b ∧ b ≤ 244
  · obtain ⟨u1, u2⟩ := t4
    by_cases s1 : b = 240
    · subst s1
      have hr : ubegin c 240 = (⟨3, 144, 191, c.count, c.bad⟩, true) := by
        unfold ubegin
        rfl
      rw [hr]
      clear hr
      go_enter Tryz.func154, Tryz.ntmps154
      go_wp2
      go_ret
      refine ⟨rfl, ?_, ?_⟩
      · have := (((HB.out.set_ 1 (.int .u8 128)).set_ 2 (.int .u8 191)).set_ 0 (.int .i64 3)).set_ 1 (.int .u8 144)
        simpa [Uc.cs, IsU] using this
      · repeat (with_reducible first | exact Touch.refl _ _ | refine Touch.setAt ?_ _ _)
    by_cases s2 : b = 244
    · subst s2
      have hr : ubegin c 244 = (⟨3, 128, 143, c.count, c.bad⟩, true) := by
        unfold ubegin
        rfl
      rw [hr]
      clear hr
      go_enter Tryz.func154, Tryz.ntmps154
      go_wp2
      go_ret
      refine ⟨rfl, ?_, ?_⟩
      · have := (((HB.out.set_ 1 (.int .u8 128)).set_ 2 (.int .u8 191)).set_ 0 (.int .i64 3)).set_ 2 (.int .u8 143)
        simpa [Uc.cs, IsU] using this
      · repeat (with_reducible first | exact Touch.refl _ _ | refine Touch.setAt ?_ _ _)
    have n224 : (b == 224) = false := by rw [beq_eq_false_iff_ne]; omega
    have n237 : (b == 237) = false := by rw [beq_eq_false_iff_ne]; omega
    have n240 : (b == 240) = false := by rw [beq_eq_false_iff_ne]; omega
    have n244 : (b == 244) = false := by rw [beq_eq_false_iff_ne]; omega
    have hr : ubegin c b = (⟨3, 128, 191, c.count, c.bad⟩, true) := by
      unfold ubegin
      rw [if_neg t1, if_neg (by omega), if_neg (by omega), if_pos ⟨u1, u2⟩, if_neg s1, if_neg s2]
    rw [hr]
    clear hr
    go_enter Tryz.func154, Tryz.ntmps154
    go_wp2
    go_ret
    refine ⟨rfl, ?_, ?_⟩
    · have := ((HB.out.set_ 1 (.int .u8 128)).set_ 2 (.int .u8 191)).set_ 0 (.int .i64 3)
      simpa [Uc.cs, IsU] using this
    · repeat (with_reducible first | exact Touch.refl _ _ | refine Touch.setAt ?_ _ _)
  have hr : ubegin c b = (⟨c.left, 128, 191, c.count, c.bad⟩, false) := by
    unfold ubegin
    rw [if_neg t1, if_neg t2, if_neg t3, if_neg t4]
  rw [hr]
  clear hr
  by_cases v1 : b < 194
  · clear t2 t3 t4
    go_enter Tryz.func154, Tryz.ntmps154
    go_wp2
    go_ret
    refine ⟨rfl, ?_, ?_⟩
    · have := (HB.out.set_ 1 (.int .u8 128)).set_ 2 (.int .u8 191)
      simpa [Uc.cs, IsU] using this
    · repeat (with_reducible first | exact Touch.refl _ _ | refine Touch.setAt ?_ _ _)
  · have v2 : 245 ≤ b := by omega
    clear t2 t3 t4
    go_enter Tryz.func154, Tryz.ntmps154
    go_wp2
    go_ret
    refine ⟨rfl, ?_, ?_⟩
    · have := (HB.out.set_ 1 (.int .u8 128)).set_ 2 (.int .u8 191)
      simpa [Uc.cs, IsU] using this
    · repeat (with_reducible first | exact Touch.refl _ _ | refine Touch.setAt ?_ _ _)

set_option maxHeartbeats 1600000 in
theorem u_take (g : Nat) (c : Uc) (b : Int) (w : World) (h : IsU w g c) (hok : c.ok) (hb0 : 0 ≤ b) (hb1 : b ≤ 255) (hc : c.count ≤ 4611686018427387904) :
    Calls Tryz.prog 151 #[.pointer (some ⟨g, 0, none⟩), .int .u8 b] w fun e w' => e = .returned (.bool (utake c b).2) ∧ IsU w' g (utake c b).1 ∧ Touch (At g) w w' := by
  have HBG := Lib.hid (u_begin g c b w h hok hb0 hb1 hc)
  have h0 := h.cell 0
  have h1 := h.cell 1
  have h2 := h.cell 2
  have h3 := h.cell 3
  have h4 := h.cell 4
  have f0 := h.frozen 0
  have f1 := h.frozen 1
  have f2 := h.frozen 2
  have f3 := h.frozen 3
  simp [Uc.cs] at h0 h1 h2 h3 h4
  obtain ⟨k0, k1, k2, k3, k4, k5, k6⟩ := hok
  have HB := Lib.hid h
  clear h
  by_cases t0 : c.left = 0
  · have hr : utake c b = ubegin c b := by unfold utake; rw [if_pos t0]
    rw [hr]
    clear hr
    have t0' : (c.left == 0) = true := by rw [t0]; rfl
    clear t0
    go_enter Tryz.func151, Tryz.ntmps151
    go_wp2_with fail
    refine HBG.out.mono ?_
    rintro e w1 ⟨rfl, hu, ht⟩
    have HU := Lib.hid hu
    have HT := Lib.hid ht
    clear hu ht
    go_wp2
    go_ret
    exact ⟨rfl, HU.out, HT.out⟩
  have t0' : (c.left == 0) = false := by rw [beq_eq_false_iff_ne]; exact t0
  by_cases t1 : b < c.lo
  · have hr : utake c b = (c, false) := by unfold utake; rw [if_neg t0, if_pos (.inl t1)]
    rw [hr]
    clear hr t0
    go_enter Tryz.func151, Tryz.ntmps151
    go_wp2
    go_ret
    exact ⟨rfl, HB.out, Touch.refl _ _⟩
  by_cases t2 : c.hi < b
  · have hr : utake c b = (c, false) := by unfold utake; rw [if_neg t0, if_pos (.inr t2)]
    rw [hr]
    clear hr t0
    go_enter Tryz.func151, Tryz.ntmps151
    go_wp2
    go_ret
    exact ⟨rfl, HB.out, Touch.refl _ _⟩
  by_cases t3 : c.left = 1
  · have hr : utake c b = (⟨0, 128, 191, c.count + 1, c.bad⟩, true) := by unfold utake; rw [if_neg t0, if_neg (by omega), if_pos t3, t3]; rfl
    rw [hr]
    clear hr t0
    have t4 : ((c.left - 1) == 0) = true := by rw [t3]; rfl
    have t5 : c.left - 1 = 0 := by omega
    have T5 := Lib.hid t5
    have t6 : 1 ≤ c.left := by omega
    clear t3 t5
    go_enter Tryz.func151, Tryz.ntmps151
    go_wp2
    go_ret
    refine ⟨rfl, ?_, ?_⟩
    · have := (((HB.out.set_ 1 (.int .u8 128)).set_ 2 (.int .u8 191)).set_ 0 (.int .i64 (c.left - 1))).set_ 3 (.int .i64 (c.count + 1))
      have e := T5.out
      simpa [Uc.cs, IsU, e] using this
    · repeat (with_reducible first | exact Touch.refl _ _ | refine Touch.setAt ?_ _ _)
  · have hr : utake c b = (⟨c.left - 1, 128, 191, c.count, c.bad⟩, true) := by unfold utake; rw [if_neg t0, if_neg (by omega), if_neg t3]
    rw [hr]
    clear hr
    have t4 : ((c.left - 1) == 0) = false := by rw [beq_eq_false_iff_ne]; omega
    have t6 : 1 ≤ c.left := by omega
    clear t3 t0
    go_enter Tryz.func151, Tryz.ntmps151
    go_wp2
    go_ret
    refine ⟨rfl, ?_, ?_⟩
    · have := ((HB.out.set_ 1 (.int .u8 128)).set_ 2 (.int .u8 191)).set_ 0 (.int .i64 (c.left - 1))
      simpa [Uc.cs, IsU] using this
    · repeat (with_reducible first | exact Touch.refl _ _ | refine Touch.setAt ?_ _ _)
end Go.Proofs.YtlnabpoohnphiaaGreat
/- The checker's Feed; Count, Valid. -/
namespace Go.Proofs.YtlnabpoohnphiaaGreat
open Go.RowKit
set_option linter.unusedSimpArgs false
set_option linter.unusedVariables false

set_option maxHeartbeats 1600000 in
theorem u_feed (g : Nat) (c : Uc) (A : Option Addr) (l : List Int) (cap : Nat) (w : World) (h : IsU w g c) (hok : c.ok) (hr : Rd w A (u8s l)) (hb : bytesIn l) (hA : ∀ a, A = some a → a.block ≠ g) (hc : c.count + l.length ≤ 4611686018427387904) :
    Calls Tryz.prog 142 #[.pointer (some ⟨g, 0, none⟩), .slice A l.length cap] w fun e w' => e = .returned (.int .i64 (ufeed c l).2) ∧ IsU w' g (ufeed c l).1 ∧ Touch (At g) w w' := by
  have HU := Lib.hid h
  have HR := Lib.hid hr
  have HBI := Lib.hid hb
  have HAA := Lib.hid hA
  have hok0 := Lib.hid hok
  obtain ⟨_, _, _, _, _, _, hc0⟩ := hok
  clear h hr hb hA
  go_enter Tryz.func142, Tryz.ntmps142
  go_wp2_with fail
  go_loopw [9] (fun i wr => ∃ (k : Nat) (ck : Uc), k ≤ l.length ∧ i = .int .i64 k ∧ IsU wr g ck ∧ ck.ok ∧ ck.count ≤ c.count + k ∧ Hid (ufeed c l = ((ufeed ck (l.drop k)).1, (ufeed ck (l.drop k)).2 + k)) ∧ Touch (At g) w wr) (fun i _ => l.length - (intOf i).toNat)
  case atStart => exact ⟨0, c, by omega, rfl, HU.out, hok0.out, by omega, by simp [Hid], Touch.refl _ _⟩
  case round =>
    obtain ⟨k, ck, hk, rfl, hu, hck, hcc, hf, ht⟩ := hrel
    have HUk := Lib.hid hu
    have HTk := Lib.hid ht
    have HOk := Lib.hid hck
    have h4 := hu.cell 4
    have ff4 := hu.frozen 4
    simp [Uc.cs] at h4
    clear hu ht hck HU
    by_cases hlt : k < l.length
    · obtain ⟨b, hb⟩ : ∃ b, b = l[k] := ⟨_, rfl⟩
      obtain ⟨ga, off, rfl, hga, c0⟩ := u8s_at (HR.out.touch HTk.out (fun a ha => HAA.out a ha)) k hlt
      have hbb := HBI.out b (by rw [hb]; exact List.getElem_mem hlt)
      obtain ⟨hb0, hb1⟩ := hbb
      have hdrop : l.drop k = b :: l.drop (k + 1) := by rw [hb]; exact List.drop_eq_getElem_cons hlt
      rw [← hb] at c0
      have HD := Lib.hid hdrop
      clear hb hdrop
      cases hbad : ck.bad
      · rw [hbad] at h4
        have HBAD := Lib.hid hbad
        clear hbad
        cases htk : (utake ck b).2
        · have HTK := Lib.hid htk
          clear htk
          go_wp2_with fail
          refine (u_take g ck b _ HUk.out HOk.out hb0 hb1 (by omega)).mono ?_
          rintro e w2 ⟨rfl, hu2, ht2⟩
          have HU2 := Lib.hid hu2
          have HT2 := Lib.hid (HTk.out.trans ht2)
          have g4 := hu2.cell 4
          have gf4 := hu2.frozen 4
          simp [Uc.cs] at g4
          clear hu2 ht2 HUk h4 ff4
          rw [HTK.out]
          go_wp2
          go_ret
          have hfin : ufeed ck (b :: l.drop (k + 1)) = ({ (utake ck b).1 with bad := true }, 0) := by rw [ufeed, HBAD.out, HTK.out]; rfl
          have hF := hf.out
          rw [HD.out, hfin] at hF
          rw [hF]
          refine ⟨by simp, ?_, HT2.out.setAt _ _⟩
          have := HU2.out.set_ 4 (.bool true)
          simpa [Uc.cs, IsU] using this
        · have HTK := Lib.hid htk
          clear htk
          go_wp2_with fail
          refine (u_take g ck b _ HUk.out HOk.out hb0 hb1 (by omega)).mono ?_
          rintro e w2 ⟨rfl, hu2, ht2⟩
          have HU2 := Lib.hid hu2
          have HT2 := Lib.hid (HTk.out.trans ht2)
          clear hu2 ht2 HUk h4 ff4
          rw [HTK.out]
          go_wp2_with fail
          go_roundw
          case rel =>
            obtain ⟨r1, r2, r3⟩ := utake_ok HOk.out b
            refine ⟨k + 1, (utake ck b).1, by omega, by go_num, HU2.out, r1, by omega, ?_, HT2.out⟩
            have hF := hf.out
            have hstep : ufeed ck (b :: l.drop (k + 1)) = ((ufeed (utake ck b).1 (l.drop (k + 1))).1, (ufeed (utake ck b).1 (l.drop (k + 1))).2 + 1) := by rw [ufeed, HBAD.out, HTK.out]; rfl
            rw [HD.out, hstep] at hF
            rw [Hid, hF]
            simp; omega
          case measure => simp [intOf]; omega
      · rw [hbad] at h4
        have HBAD := Lib.hid hbad
        clear hbad
        go_wp2
        go_ret
        have hfin : ufeed ck (b :: l.drop (k + 1)) = (ck, 0) := by rw [ufeed, HBAD.out]; rfl
        have hF := hf.out
        rw [HD.out, hfin] at hF
        rw [hF]
        refine ⟨by simp, ?_, HTk.out.setAt _ _⟩
        have := HUk.out.set_ 4 (.bool true)
        have hb := HBAD.out
        simpa [Uc.cs, IsU, hb] using this
    · obtain rfl : k = l.length := by omega
      have hF := hf.out
      rw [List.drop_length] at hF
      have HF := Lib.hid hF
      clear hF
      go_wp2
      go_ret
      rw [HF.out]
      exact ⟨by simp [ufeed], by simpa [ufeed] using HUk.out, HTk.out⟩

def ucount (l : List Int) : Int × Bool := if (ufeed Uc.new l).1.whole = true then ((ufeed Uc.new l).1.count, true) else (0, false)
theorem new_ok : Uc.new.ok := by simp [Uc.new, Uc.ok]

set_option maxHeartbeats 800000 in
theorem u_count (A : Option Addr) (l : List Int) (cap : Nat) (w : World) (hr : Rd w A (u8s l)) (hb : bytesIn l) (hA : ∀ a, A = some a → a.block < w.heap.size) (hl : l.length ≤ 4611686018427387904) :
    Calls Tryz.prog 135 #[.slice A l.length cap] w fun e w' => e = .returned (.tuple #[.int .i64 (ucount l).1, .bool (ucount l).2]) ∧ Touch NoS w w' := by
  have HR := Lib.hid hr
  have HB := Lib.hid hb
  have HA := Lib.hid hA
  clear hr hb hA
  cases hw : (ufeed Uc.new l).1.whole
  · have hc : ucount l = (0, false) := by rw [ucount, hw]; rfl
    rw [hc]
    have HW := Lib.hid hw
    clear hc hw
    go_enter Tryz.func135, Tryz.ntmps135
    go_wp2_with fail
    refine (u_new _).mono ?_
    rintro e w1 ⟨g, rfl, hg, hu, ht⟩
    have HU := Lib.hid hu
    have HT := Lib.hid ht
    clear hu ht
    go_wp2_with fail
    refine (u_feed g Uc.new A l cap _ HU.out new_ok (HR.out.touch_no HT.out) HB.out (fun a ha => by have := HA.out a ha; omega) (by simp [Uc.new]; omega)).mono ?_
    rintro e w2 ⟨rfl, hu, ht⟩
    have HT2 := Lib.hid (HT.out.at_new ht hg)
    have HU2 := Lib.hid hu
    have h3 := hu.cell 3
    simp [Uc.cs] at h3
    clear hu ht HU
    go_wp2_with fail
    refine (u_whole g _ _ HU2.out).mono ?_
    rintro e w3 ⟨rfl, rfl⟩
    rw [HW.out]
    go_wp2
    go_ret2
    exact ⟨rfl, HT2.out⟩
  · have hc : ucount l = ((ufeed Uc.new l).1.count, true) := by rw [ucount, hw]; rfl
    rw [hc]
    have HW := Lib.hid hw
    clear hc hw
    go_enter Tryz.func135, Tryz.ntmps135
    go_wp2_with fail
    refine (u_new _).mono ?_
    rintro e w1 ⟨g, rfl, hg, hu, ht⟩
    have HU := Lib.hid hu
    have HT := Lib.hid ht
    clear hu ht
    go_wp2_with fail
    refine (u_feed g Uc.new A l cap _ HU.out new_ok (HR.out.touch_no HT.out) HB.out (fun a ha => by have := HA.out a ha; omega) (by simp [Uc.new]; omega)).mono ?_
    rintro e w2 ⟨rfl, hu, ht⟩
    have HT2 := Lib.hid (HT.out.at_new ht hg)
    have HU2 := Lib.hid hu
    have h3 := hu.cell 3
    simp [Uc.cs] at h3
    clear hu ht HU
    go_wp2_with fail
    refine (u_whole g _ _ HU2.out).mono ?_
    rintro e w3 ⟨rfl, rfl⟩
    rw [HW.out]
    go_wp2
    go_ret2
    exact ⟨rfl, HT2.out⟩
theorem u_valid (A : Option Addr) (l : List Int) (cap : Nat) (w : World) (hr : Rd w A (u8s l)) (hb : bytesIn l) (hA : ∀ a, A = some a → a.block < w.heap.size) (hl : l.length ≤ 4611686018427387904) :
    Calls Tryz.prog 116 #[.slice A l.length cap] w fun e w' => e = .returned (.bool (ucount l).2) ∧ Touch NoS w w' := by
  have HC := Lib.hid (u_count A l cap w hr hb hA hl)
  clear hr hb hA
  go_enter Tryz.func116, Tryz.ntmps116
  go_wp2_with fail
  refine HC.out.mono ?_
  rintro e w1 ⟨rfl, ht⟩
  have HT := Lib.hid ht
  clear ht
  go_wp2
  go_ret
  exact ⟨rfl, HT.out⟩
end Go.Proofs.YtlnabpoohnphiaaGreat
/- The utf laws' own example: awake. -/
namespace Go.Proofs.YtlnabpoohnphiaaGreat
open Go.RowKit
set_option linter.unusedSimpArgs false
set_option linter.unusedVariables false

theorem u_feed_ (g : Nat) (c : Uc) (A : Option Addr) (l : List Int) (cap : Nat) (c' : Uc) (n : Nat) (hres : ufeed c l = (c', n)) (w : World) (h : IsU w g c) (hok : c.ok) (hr : Rd w A (u8s l)) (hb : bytesIn l) (hA : ∀ a, A = some a → a.block ≠ g) (hc : c.count + l.length ≤ 4611686018427387904) :
    Calls Tryz.prog 142 #[.pointer (some ⟨g, 0, none⟩), .slice A l.length cap] w fun e w' => e = .returned (.int .i64 n) ∧ IsU w' g c' ∧ Touch (At g) w w' := by
  have := u_feed g c A l cap w h hok hr hb hA hc
  rwa [hres] at this
theorem u_valid_ (A : Option Addr) (l : List Int) (cap : Nat) (r : Bool) (hres : (ucount l).2 = r) (w : World) (hr : Rd w A (u8s l)) (hb : bytesIn l) (hA : ∀ a, A = some a → a.block < w.heap.size) (hl : l.length ≤ 4611686018427387904) :
    Calls Tryz.prog 116 #[.slice A l.length cap] w fun e w' => e = .returned (.bool r) ∧ Touch NoS w w' := by
  have := u_valid A l cap w hr hb hA hl
  rwa [hres] at this
theorem u_count_ (A : Option Addr) (l : List Int) (cap : Nat) (r : Int × Bool) (hres : ucount l = r) (w : World) (hr : Rd w A (u8s l)) (hb : bytesIn l) (hA : ∀ a, A = some a → a.block < w.heap.size) (hl : l.length ≤ 4611686018427387904) :
    Calls Tryz.prog 135 #[.slice A l.length cap] w fun e w' => e = .returned (.tuple #[.int .i64 r.1, .bool r.2]) ∧ Touch NoS w w' := by
  have := u_count A l cap w hr hb hA hl
  rwa [hres] at this
theorem IsU.no {w w' : World} {g : Nat} {c : Uc} (h : IsU w g c) (k : Touch NoS w w') : IsU w' g c := Blk.touch h k (fun h => h)
theorem IsU.lt {w : World} {g : Nat} {c : Uc} (h : IsU w g c) : g < w.heap.size := Blk.lt h

end Go.Proofs.YtlnabpoohnphiaaGreat
/- Strings as bytes, and what a beginning of bytes comes to. -/
namespace Go.Proofs.YtlnabpoohnphiaaGreat
open Go.RowKit
set_option linter.unusedSimpArgs false
set_option linter.unusedVariables false

/-- Behind a beginning. -/
theorem ufeed_take (l : List Int) : ∀ (c : Uc) (i : Nat), c.bad = false → (ufeed c (l.take i)).2 = min (min i l.length) (ufeed c l).2 ∧ ((ufeed c (l.take i)).1.bad = true ↔ (ufeed c l).2 < min i l.length) := by
  induction l with
  | nil => intro c i hb; simp [ufeed, hb]
  | cons b l ih =>
    intro c i hb
    cases i with
    | zero => simp [ufeed, hb]
    | succ i =>
      rw [List.take_succ_cons]
      cases ht : (utake c b).2
      · simp [ufeed, hb, ht]
      · have hb' : (utake c b).1.bad = false := by
          unfold utake ubegin
          repeat (first | split | exact hb)
        obtain ⟨h1, h2⟩ := ih (utake c b).1 i hb'
        simp only [ufeed, hb, ht, if_true, Bool.false_eq_true, if_false]
        constructor
        · rw [h1]; simp only [List.length_cons]; omega
        · rw [h2]; simp only [List.length_cons]; omega
theorem utake_bad (c : Uc) (b : Int) : (utake c b).1.bad = c.bad := by
  unfold utake ubegin
  repeat (first | split | rfl)
theorem ufeed_bad (l : List Int) : ∀ (c : Uc), c.bad = false → ((ufeed c l).1.bad = true ↔ (ufeed c l).2 < l.length) := by
  intro c hb
  have := (ufeed_take l c l.length hb).2
  simpa using this
/-- Bytes behind bytes. -/
theorem ufeed_append (a b : List Int) : ∀ (c : Uc), (ufeed c (a ++ b)).1 = (ufeed (ufeed c a).1 b).1 ∧ (ufeed c (a ++ b)).2 = (ufeed c a).2 + (ufeed (ufeed c a).1 b).2 := by
  induction a with
  | nil => intro c; simp [ufeed]
  | cons x a ih =>
    intro c
    cases hb : c.bad
    · cases ht : (utake c x).2
      · have hB : ∀ (d : Uc) (l : List Int), d.bad = true → ufeed d l = (d, 0) := fun d l hd => by cases l <;> simp [ufeed, hd]
        simp only [List.cons_append, ufeed, hb, ht, Bool.false_eq_true, if_false]
        rw [hB _ b rfl]
        exact ⟨rfl, rfl⟩
      · obtain ⟨h1, h2⟩ := ih (utake c x).1
        simp only [List.cons_append, ufeed, hb, ht, if_true, Bool.false_eq_true, if_false]
        rw [h1, h2]
        exact ⟨rfl, by omega⟩
    · have hB : ∀ (d : Uc) (l : List Int), d.bad = true → ufeed d l = (d, 0) := fun d l hd => by cases l <;> simp [ufeed, hd]
      rw [hB c _ hb, hB c _ hb]
      rw [hB c _ hb]
      exact ⟨rfl, rfl⟩

/-- The contracts, at a length that is written otherwise. -/
theorem u_feedn (g : Nat) (c : Uc) (A : Option Addr) (l : List Int) (n cap : Nat) (hn : l.length = n) (w : World) (h : IsU w g c) (hok : c.ok) (hr : Rd w A (u8s l)) (hb : bytesIn l) (hA : ∀ a, A = some a → a.block ≠ g) (hc : c.count + n ≤ 4611686018427387904) :
    Calls Tryz.prog 142 #[.pointer (some ⟨g, 0, none⟩), .slice A n cap] w fun e w' => e = .returned (.int .i64 (ufeed c l).2) ∧ IsU w' g (ufeed c l).1 ∧ Touch (At g) w w' := by
  subst hn
  exact u_feed g c A l cap w h hok hr hb hA hc
theorem u_countn (A : Option Addr) (l : List Int) (n cap : Nat) (hn : l.length = n) (w : World) (hr : Rd w A (u8s l)) (hb : bytesIn l) (hA : ∀ a, A = some a → a.block < w.heap.size) (hl : n ≤ 4611686018427387904) :
    Calls Tryz.prog 135 #[.slice A n cap] w fun e w' => e = .returned (.tuple #[.int .i64 (ucount l).1, .bool (ucount l).2]) ∧ Touch NoS w w' := by
  subst hn
  exact u_count A l cap w hr hb hA hl
theorem u_validn (A : Option Addr) (l : List Int) (n cap : Nat) (hn : l.length = n) (w : World) (hr : Rd w A (u8s l)) (hb : bytesIn l) (hA : ∀ a, A = some a → a.block < w.heap.size) (hl : n ≤ 4611686018427387904) :
    Calls Tryz.prog 116 #[.slice A n cap] w fun e w' => e = .returned (.bool (ucount l).2) ∧ Touch NoS w w' := by
  subst hn
  exact u_valid A l cap w hr hb hA hl
/-- At a new row. -/
theorem u_feedc (g : Nat) (c : Uc) (s : ByteArray) (n cap : Nat) (hn : s.size = n) (w : World) (h : IsU w g c) (hok : c.ok) (hc : c.count + n ≤ 4611686018427387904) :
    Calls Tryz.prog 142 #[.pointer (some ⟨g, 0, none⟩), .slice (some ⟨w.heap.size, 0, none⟩) n cap] (Lib.bytesWorld w 5 s) fun e w' => e = .returned (.int .i64 (ufeed c (sb s)).2) ∧ IsU w' g (ufeed c (sb s)).1 ∧ Touch (At g) w w' :=
  (u_feedn g c _ (sb s) n cap (by rw [sb_length]; exact hn) _ (h.no (conv_touch _ _ _)) hok (conv_rd _ _ _) (sb_in s) (by intro a ha; injection ha with ha; subst ha; have := h.lt; show w.heap.size ≠ g; omega) hc).mono
    fun e w' ⟨h1, h2, h3⟩ => ⟨h1, h2, (conv_touch w 5 s).of_no.trans h3⟩
theorem u_countc (s : ByteArray) (n cap : Nat) (hn : s.size = n) (w : World) (hl : n ≤ 4611686018427387904) :
    Calls Tryz.prog 135 #[.slice (some ⟨w.heap.size, 0, none⟩) n cap] (Lib.bytesWorld w 5 s) fun e w' => e = .returned (.tuple #[.int .i64 (ucount (sb s)).1, .bool (ucount (sb s)).2]) ∧ Touch NoS w w' :=
  (u_countn _ (sb s) n cap (by rw [sb_length]; exact hn) _ (conv_rd _ _ _) (sb_in s) (by intro a ha; injection ha with ha; subst ha; rw [Lib.bytesWorld_size]; show w.heap.size < _; omega) hl).mono
    fun e w' ⟨h1, h3⟩ => ⟨h1, (conv_touch w 5 s).trans h3⟩
theorem u_validc (s : ByteArray) (n cap : Nat) (hn : s.size = n) (w : World) (hl : n ≤ 4611686018427387904) :
    Calls Tryz.prog 116 #[.slice (some ⟨w.heap.size, 0, none⟩) n cap] (Lib.bytesWorld w 5 s) fun e w' => e = .returned (.bool (ucount (sb s)).2) ∧ Touch NoS w w' :=
  (u_validn _ (sb s) n cap (by rw [sb_length]; exact hn) _ (conv_rd _ _ _) (sb_in s) (by intro a ha; injection ha with ha; subst ha; rw [Lib.bytesWorld_size]; show w.heap.size < _; omega) hl).mono
    fun e w' ⟨h1, h3⟩ => ⟨h1, (conv_touch w 5 s).trans h3⟩
end Go.Proofs.YtlnabpoohnphiaaGreat
/- close: Put. -/
namespace Go.Proofs.YtlnabpoohnphiaaGreat
open Go.RowKit
set_option linter.unusedSimpArgs false
set_option linter.unusedVariables false

/-- Are bytes letters? -/
def lets (s : ByteArray) : Bool := (ucount (sb s)).2
theorem lets_eq (s : ByteArray) : lets s = (ufeed Uc.new (sb s)).1.whole := by
  unfold lets ucount
  cases h : (ufeed Uc.new (sb s)).1.whole <;> rfl
theorem valid11_le {n : Int} (h : valid11 n = true) : 1000 ≤ n ∧ n ≤ 4999 := by
  have := of_decide_eq_true h
  omega

end Go.Proofs.YtlnabpoohnphiaaGreat
