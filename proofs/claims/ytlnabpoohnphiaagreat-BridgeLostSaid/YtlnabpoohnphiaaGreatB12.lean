/- stream: the plain laws: what bytes are read as, frame by frame. | stream: look in one; rows of frames; the function that Feed calls. -/
import Derived.Test.YtlnabpoohnphiaaGreatB11
import Derived.Test.YtlnabpoohnphiaaGreatB03
import Derived.Test.YtlnabpoohnphiaaGreatB04
import Derived.Deep.RegionLawGrows
/- stream: the plain laws: what bytes are read as, frame by frame. -/
namespace Go.Proofs.YtlnabpoohnphiaaGreat
open Go.RowKit
set_option linter.unusedSimpArgs false
set_option linter.unusedVariables false

theorem fget_errs (l : List Int) (most : Int) : (fget l most).2.2 = 0 ∨ (fget l most).2.2 = 90 ∨ (fget l most).2.2 = 91 ∨ (fget l most).2.2 = 92 := by
  unfold fget
  split
  · exact .inr (.inl rfl)
  split
  · exact .inr (.inr (.inl rfl))
  unfold flen
  simp only
  split
  · exact .inr (.inr (.inl rfl))
  split
  · exact .inr (.inl rfl)
  split
  · exact .inr (.inr (.inr rfl))
  unfold fmask
  split
  · split
    · exact .inr (.inl rfl)
    · unfold fdata
      split
      · exact .inr (.inl rfl)
      · exact .inl rfl
  · unfold fdata
    split
    · exact .inr (.inl rfl)
    · exact .inl rfl
theorem fget_two {l : List Int} (hb : bytesIn l) (hl : l.length ≤ maxLen) {most : Int} (h : (fget l most).2.2 = 0) : 2 ≤ (fget l most).2.1 ∧ (fget l most).2.1 ≤ l.length := by
  obtain ⟨f, n, e, hG⟩ : ∃ f n e, fget l most = (f, n, e) := ⟨_, _, _, rfl⟩
  rw [hG] at h ⊢
  simp only at h ⊢
  subst h
  obtain ⟨h1, h2, h3, h4, h5⟩ := fget_ok hb hl hG
  have := congrArg List.length h5
  rw [fput_length, List.length_take] at this
  have h6 := size9_ge f
  omega
theorem slook_ok {mk : Bool} {most : Int} {l : List Int} (h : (slook mk most l).2.2 = 0) : slook mk most l = fget l most ∧ (1 < l.length → decide (128 ≤ l.getD 1 0) = mk) ∧ (1 < l.length → (fget (l.take 1) most).2.2 ≠ 91) := by
  unfold slook at h ⊢
  by_cases h1 : 1 < l.length ∧ (fget (l.take 1) most).2.2 = 91
  · rw [if_pos h1] at h; cases h
  rw [if_neg h1] at h ⊢
  by_cases h2 : 1 < l.length ∧ decide (128 ≤ l.getD 1 0) ≠ mk
  · rw [if_pos h2] at h; cases h
  rw [if_neg h2]
  refine ⟨rfl, fun h3 => ?_, fun h3 h4 => h1 ⟨h3, h4⟩⟩
  cases hd : decide (decide (128 ≤ l.getD 1 0) = mk)
  · exact absurd ⟨h3, of_decide_eq_false hd⟩ h2
  · exact of_decide_eq_true hd
theorem slook_errs (mk : Bool) (most : Int) (l : List Int) : (slook mk most l).2.2 = 0 ∨ (slook mk most l).2.2 = 90 ∨ (slook mk most l).2.2 = 91 ∨ (slook mk most l).2.2 = 92 ∨ (slook mk most l).2.2 = 100 := by
  unfold slook
  split
  · exact .inr (.inr (.inl rfl))
  split
  · exact .inr (.inr (.inr (.inr rfl)))
  rcases fget_errs l most with h | h | h | h
  · exact .inl h
  · exact .inr (.inl h)
  · exact .inr (.inr (.inl h))
  · exact .inr (.inr (.inr (.inl h)))
theorem slook_no {mk : Bool} {most : Int} {l : List Int} (hb : bytesIn l) (h : (slook mk most l).2.2 ≠ 0) : (slook mk most l).1 = Fr.zero ∧ (slook mk most l).2.1 = 0 := by
  unfold slook at h ⊢
  split
  · exact ⟨rfl, rfl⟩
  split
  · exact ⟨rfl, rfl⟩
  rename_i h1 h2
  rw [if_neg h1, if_neg h2] at h
  exact fget_no hb h
/-- What is known of a beginning stays so. -/
theorem slook_mono {mk : Bool} {most : Int} {l r : List Int} (hb : bytesIn (l ++ r)) (hl : l.length ≤ maxLen) (he : (slook mk most l).2.2 ≠ 90) : slook mk most (l ++ r) = slook mk most l := by
  have hbl : bytesIn l := fun x hx => hb x (List.mem_append.2 (.inl hx))
  by_cases h1 : 1 < l.length
  · have ht : (l ++ r).take 1 = l.take 1 := by rw [List.take_append_of_le_length (by omega)]
    have hg : (l ++ r).getD 1 0 = l.getD 1 0 := by
      rw [List.getD_eq_getElem?_getD, List.getD_eq_getElem?_getD, List.getElem?_append_left h1]
    have h1' : 1 < (l ++ r).length := by rw [List.length_append]; omega
    unfold slook at he ⊢
    rw [ht, hg]
    simp only [h1, h1', true_and] at he ⊢
    split
    · rfl
    split
    · rfl
    rename_i g1 g2
    rw [if_neg g1, if_neg g2] at he
    exact fget_mono hb most he
  · have hs : slook mk most l = fget l most := by
      unfold slook
      rw [if_neg (fun h => h1 h.1), if_neg (fun h => h1 h.1)]
    rw [hs] at he ⊢
    have h91 : (fget l most).2.2 = 91 ∨ (fget l most).2.2 = 0 ∨ (fget l most).2.2 = 92 := by
      rcases fget_errs l most with h | h | h | h
      · exact .inr (.inl h)
      · exact absurd h he
      · exact .inl h
      · exact .inr (.inr h)
    have h90 : l = [] → False := by rintro rfl; exact he rfl
    obtain ⟨x, rfl⟩ : ∃ x, l = [x] := by
      rcases l with _ | ⟨x, _ | ⟨y, t⟩⟩
      · exact absurd rfl h90
      · exact ⟨x, rfl⟩
      · exact absurd (by simp) h1
    have hone : (fget [x] most).2.2 = 90 ∨ (fget [x] most).2.2 = 91 := by
      unfold fget
      rw [if_neg (by simp)]
      split
      · exact .inr rfl
      · left; rfl
    have h9 : (fget [x] most).2.2 = 91 := by
      rcases hone with h | h
      · exact absurd h he
      · exact h
    have hz := fget_no hbl (most := most) (by rw [h9]; decide)
    have hfull : fget [x] most = (Fr.zero, 0, 91) := Prod.ext hz.1 (Prod.ext hz.2 h9)
    rcases r with _ | ⟨y, t⟩
    · rw [List.append_nil]; exact hs
    · unfold slook
      rw [if_pos ⟨by simp, by simpa using h9⟩, hfull]

/-- The frames of bytes; what is left; what is wrong. -/
def scanF (mk : Bool) (most : Int) : Nat → List Int → List Fr × List Int × Int
  | 0, l => ([], l, 0)
  | k + 1, l =>
    if (slook mk most l).2.2 = 0 then ((slook mk most l).1 :: (scanF mk most k (l.drop (slook mk most l).2.1)).1, (scanF mk most k (l.drop (slook mk most l).2.1)).2)
    else if (slook mk most l).2.2 = 90 then ([], l, 0) else ([], [], (slook mk most l).2.2)
def scan (mk : Bool) (most : Int) (l : List Int) : List Fr × List Int × Int := scanF mk most (l.length + 1) l
theorem slook_two {mk : Bool} {most : Int} {l : List Int} (hb : bytesIn l) (hl : l.length ≤ maxLen) (h : (slook mk most l).2.2 = 0) : 2 ≤ (slook mk most l).2.1 ∧ (slook mk most l).2.1 ≤ l.length := by
  have e := (slook_ok h).1
  rw [e] at h ⊢
  exact fget_two hb hl h
theorem scanF_fuel (mk : Bool) (most : Int) : ∀ (k j : Nat) (l : List Int), bytesIn l → l.length ≤ maxLen → l.length < k → l.length < j → scanF mk most k l = scanF mk most j l := by
  intro k
  induction k with
  | zero => intro j l _ _ h; omega
  | succ k ih =>
    intro j l hb hl hk hj
    cases j with
    | zero => omega
    | succ j =>
      unfold scanF
      by_cases h : (slook mk most l).2.2 = 0
      · rw [if_pos h, if_pos h]
        have h2 := slook_two hb hl h
        rw [ih j (l.drop (slook mk most l).2.1) (hb.drop _) (by rw [List.length_drop]; omega) (by rw [List.length_drop]; omega) (by rw [List.length_drop]; omega)]
      · rw [if_neg h, if_neg h]
theorem scan_eq (mk : Bool) (most : Int) (l : List Int) (hb : bytesIn l) (hl : l.length ≤ maxLen) : scan mk most l =
    if (slook mk most l).2.2 = 0 then ((slook mk most l).1 :: (scan mk most (l.drop (slook mk most l).2.1)).1, (scan mk most (l.drop (slook mk most l).2.1)).2)
    else if (slook mk most l).2.2 = 90 then ([], l, 0) else ([], [], (slook mk most l).2.2) := by
  unfold scan
  conv => lhs; unfold scanF
  by_cases h : (slook mk most l).2.2 = 0
  · rw [if_pos h, if_pos h]
    have h2 := slook_two hb hl h
    rw [scanF_fuel mk most l.length _ (l.drop (slook mk most l).2.1) (hb.drop _) (by rw [List.length_drop]; omega) (by rw [List.length_drop]; omega) (Nat.lt_succ_self _)]
  · rw [if_neg h, if_neg h]
/-- More bytes behind. -/
theorem scan_append (mk : Bool) (most : Int) : ∀ (n : Nat) (a b : List Int), a.length ≤ n → bytesIn (a ++ b) → (a ++ b).length ≤ maxLen →
    ((scan mk most a).2.2 = 0 → scan mk most (a ++ b) = ((scan mk most a).1 ++ (scan mk most ((scan mk most a).2.1 ++ b)).1, (scan mk most ((scan mk most a).2.1 ++ b)).2)) ∧
    ((scan mk most a).2.2 ≠ 0 → scan mk most (a ++ b) = scan mk most a) := by
  intro n
  induction n with
  | zero =>
    intro a b ha hb hl
    obtain rfl : a = [] := List.eq_nil_of_length_eq_zero (by omega)
    have h0 : scan mk most [] = ([], [], 0) := rfl
    rw [h0]
    exact ⟨fun _ => rfl, fun h => absurd rfl h⟩
  | succ n ih =>
    intro a b ha hb hl
    have hba : bytesIn a := fun x hx => hb x (List.mem_append.2 (.inl hx))
    rw [List.length_append] at hl
    have e1 := scan_eq mk most a hba (by omega)
    by_cases h : (slook mk most a).2.2 = 0
    · rw [if_pos h] at e1
      have h2 := slook_two hba (by omega) h
      have hm := slook_mono (mk := mk) (most := most) hb (by omega) (by rw [h]; decide)
      have e2 := scan_eq mk most (a ++ b) hb (by rw [List.length_append]; omega)
      rw [hm, if_pos h, List.drop_append_of_le_length h2.2] at e2
      have hbd : bytesIn (a.drop (slook mk most a).2.1 ++ b) := by
        rw [← List.drop_append_of_le_length h2.2]
        exact hb.drop _
      have := ih (a.drop (slook mk most a).2.1) b (by rw [List.length_drop]; omega) hbd (by rw [List.length_append, List.length_drop]; omega)
      rw [e1, e2]
      simp only
      refine ⟨fun h0 => ?_, fun h0 => ?_⟩
      · rw [this.1 h0]
        rfl
      · rw [this.2 h0]
    · rw [if_neg h] at e1
      by_cases h9 : (slook mk most a).2.2 = 90
      · rw [if_pos h9] at e1
        rw [e1]
        exact ⟨fun _ => rfl, fun h => absurd rfl h⟩
      · rw [if_neg h9] at e1
        have hm := slook_mono (mk := mk) (most := most) hb (by omega) h9
        have e2 := scan_eq mk most (a ++ b) hb (by rw [List.length_append]; omega)
        rw [hm, if_neg h, if_neg h9] at e2
        rw [e1, e2]
        exact ⟨fun h0 => absurd h0 h, fun _ => rfl⟩
end Go.Proofs.YtlnabpoohnphiaaGreat
/- stream: look in one; rows of frames; the function that Feed calls. -/
namespace Go.Proofs.YtlnabpoohnphiaaGreat
open Go.RowKit
set_option linter.unusedSimpArgs false
set_option linter.unusedVariables false

theorem s_look (g : Nat) (mk : Bool) (most : Int) (A : Option Addr) (l : List Int) (n cap : Nat) (hn : l.length = n) (er : Int) (w : World)
    (hb : Blk w g 139 (stCells mk most (.slice A n cap) er)) (hr : Rd w A (u8s l)) (hin : bytesIn l) (hlc : n ≤ cap) (hcm : cap ≤ maxLen) (hl2 : n ≤ 70368744177664) (hm : (Lit.int .i64 most).wf = true) :
    Calls Tryz.prog 104 #[.pointer (some ⟨g, 0, none⟩)] w fun e w' => e = .returned (.tuple #[.agg (slook mk most l).1.cs, .int .i64 (slook mk most l).2.1, .int .i64 (slook mk most l).2.2]) ∧ Touch NoS w w' := by
  by_cases h : 1 < n
  · obtain ⟨gA, off, rfl, _⟩ := hr (by intro h'; have := congrArg List.length h'; simp [u8s] at this; rw [this] at hn; simp at hn; omega)
    exact s_look_long g mk most gA off l n cap hn er w hb hr hin hlc hcm h hl2 hm
  · have hs : slook mk most l = fget l most := by
      unfold slook
      rw [if_neg (fun h' => h (by omega)), if_neg (fun h' => h (by omega))]
    rw [hs]
    exact s_look_short g mk most A l n cap hn er w hb hr hin hlc hcm (by omega) hm

/-- What the function that Feed calls works on. -/
structure Fed (w0 : World) (S : Nat → Prop) (base g B1 B2 : Nat) (mk : Bool) (most : Int) (w : World) (fs : List Fr) (part : List Int) (er : Int) : Prop where
  ptr : Blk w B1 103 #[.pointer (some ⟨g, 0, none⟩)]
  st : ∃ v, Blk w g 139 (stCells mk most v er) ∧ w.ownsRow base 5 1 v part.length (u8s part) ∧ (∀ b, v.ownBlock = some b → S b ∨ w0.heap.size ≤ b)
  out : ∃ v, Blk w B2 51 #[v] ∧ w.ownsRow w0.heap.size 42 8 v fs.length (frs fs)
  touch : Touch S w0 w

set_option maxHeartbeats 3200000 in
set_option maxRecDepth 100000 in
theorem s_take_more (w0 : World) (S : Nat → Prop) (base g B1 B2 : Nat) (mk : Bool) (most : Int) (hm : (Lit.int .i64 most).wf = true) (w : World) (fs : List Fr) (part : List Int) (hin : bytesIn part) (hl : part.length ≤ 1000000)
    (h : Fed w0 S base g B1 B2 mk most w fs part 0) (he : (slook mk most part).2.2 = 90) :
    Calls Tryz.prog 103 #[.pointer (some ⟨B1, 0, none⟩), .pointer (some ⟨B2, 0, none⟩)] w fun e w' => e = .returned (.bool false) ∧ Fed w0 S base g B1 B2 mk most w' fs part 0 := by
  obtain ⟨hp, ⟨v, hb, ho, hlo⟩, ⟨v2, hb2, ho2⟩, ht⟩ := h
  have HLO := Lib.hid hlo
  clear hlo
  obtain ⟨A, c, rfl, hlc, hcm, hrd, _, _⟩ := own_cases ho
  have HLK := Lib.hid (s_look g mk most A part part.length c rfl 0 w hb hrd hin hlc hcm (by omega) hm)
  obtain ⟨f, n, e, hS⟩ : ∃ f n e, slook mk most part = (f, n, e) := ⟨_, _, _, rfl⟩
  rw [hS] at HLK he
  simp only at HLK he
  subst he
  have p0 := hp.cell 0
  simp at p0
  have plt := hp.lt
  have HP := Lib.hid hp
  have HB := Lib.hid hb
  have HO := Lib.hid ho
  have HB2 := Lib.hid hb2
  have HO2 := Lib.hid ho2
  have HT := Lib.hid ht
  clear hp hb ho hb2 ho2 ht hrd hm hin hS hlc hcm
  obtain ⟨fin, op, masked, k0, k1, k2, k3, d⟩ := f
  simp only [Fr.cs] at HLK
  go_enter Tryz.func103, Tryz.ntmps103
  go_wp2_with fail
  refine HLK.out.mono ?_
  rintro e w1 ⟨rfl, ht⟩
  go_wp2
  go_ret
  refine ⟨rfl, ⟨(HP.out.touch ht (fun h => h)).alloc _, ⟨_, (HB.out.touch ht (fun h => h)).alloc _, (own_no HO.out (ht.alloc _)), HLO.out⟩, ⟨_, (HB2.out.touch ht (fun h => h)).alloc _, (own_no HO2.out (ht.alloc _))⟩, (HT.out.trans ht.of_no).alloc _⟩⟩

set_option maxHeartbeats 3200000 in
set_option maxRecDepth 100000 in
theorem s_take_bad (w0 : World) (S : Nat → Prop) (base g B1 B2 : Nat) (hSg : S g) (mk : Bool) (most : Int) (hm : (Lit.int .i64 most).wf = true) (w : World) (fs : List Fr) (part : List Int) (hin : bytesIn part) (hl : part.length ≤ 1000000)
    (h : Fed w0 S base g B1 B2 mk most w fs part 0) (er : Int) (hee : (slook mk most part).2.2 = er) (he0 : er ≠ 0) (he : er ≠ 90) :
    Calls Tryz.prog 103 #[.pointer (some ⟨B1, 0, none⟩), .pointer (some ⟨B2, 0, none⟩)] w fun e w' => e = .returned (.bool false) ∧ Fed w0 S base g B1 B2 mk most w' fs [] er := by
  obtain ⟨hp, ⟨v, hb, ho, hlo⟩, ⟨v2, hb2, ho2⟩, ht⟩ := h
  have HLO := Lib.hid hlo
  clear hlo
  obtain ⟨A, c, rfl, hlc, hcm, hrd, _, _⟩ := own_cases ho
  have HLK := Lib.hid (s_look g mk most A part part.length c rfl 0 w hb hrd hin hlc hcm (by omega) hm)
  obtain ⟨f, n, e, hS⟩ : ∃ f n e, slook mk most part = (f, n, e) := ⟨_, _, _, rfl⟩
  rw [hS] at HLK hee
  simp only at HLK hee
  subst hee
  have q0 : (e == 0) = false := by rw [beq_eq_false_iff_ne]; exact he0
  have q1 : (e != 90) = true := by rw [bne_iff_ne]; exact he
  have HP := Lib.hid hp
  have HB := Lib.hid hb
  have HB2 := Lib.hid hb2
  have HO2 := Lib.hid ho2
  have HT := Lib.hid ht
  have p0 := hp.cell 0
  simp at p0
  have plt := hp.lt
  clear hp hb ho hb2 ho2 ht hrd hm hin hS hlc hcm
  obtain ⟨fin, op, masked, k0, k1, k2, k3, d⟩ := f
  simp only [Fr.cs] at HLK
  go_enter Tryz.func103, Tryz.ntmps103
  go_wp2_with fail
  refine HLK.out.mono ?_
  rintro e' w1 ⟨rfl, ht⟩
  have hp1 := HP.out.touch ht (fun h => h)
  have hb1 := HB.out.touch ht (fun h => h)
  have p0 := hp1.cell 0
  have b2 := hb1.cell 2
  have b3 := hb1.cell 3
  have f2 := hb1.frozen 2
  have f3 := hb1.frozen 3
  have plt := hp1.lt
  have glt := hb1.lt
  simp [stCells] at p0 b2 b3
  clear hp1 hb1
  go_wp2_with fail
  go_region
  go_wp2
  go_ret
  have hp1 := HP.out.touch ht (fun h => h)
  have hb1 := HB.out.touch ht (fun h => h)
  have hb21 := HB2.out.touch ht (fun h => h)
  have ho21 := own_no HO2.out ht
  have n1 : B1 ≠ g := hp1.ne_ hb1 (by decide)
  have n2 : B2 ≠ g := hb21.ne_ hb1 (by decide)
  refine ⟨rfl, ⟨(((hp1.far n1 _).far n1 _).alloc _).drew, ⟨.slice none 0 0, (((hb1.set_ 3 _).set_ 2 _).alloc _).drew, own_nil _ _ _ _, fun b h => (by cases h)⟩, ⟨v2, (((hb21.far n2 _).far n2 _).alloc _).drew, ?_⟩, ?_⟩⟩
  · exact own_no (own_far (own_far ho21 hb1 (by decide) _ _) (hb1.set_ 3 _) (by decide) _ _) ((Touch.refl _ _).alloc _).drew
  · exact ((((HT.out.trans ht.of_no).setCell (p := ⟨g, 3, none⟩) (fun _ => hSg) _).setCell (p := ⟨g, 2, none⟩) (fun _ => hSg) _).alloc _).drew

set_option maxHeartbeats 6400000 in
set_option maxRecDepth 100000 in
theorem s_take_ok (w0 : World) (S : Nat → Prop) (base g B1 B2 : Nat) (hSg : S g) (hB2 : w0.heap.size ≤ B2) (hbs : base ≤ w0.heap.size) (mk : Bool) (most : Int) (hm : (Lit.int .i64 most).wf = true) (w : World) (fs : List Fr) (part : List Int) (hin : bytesIn part) (hl : part.length ≤ 1000000) (hf : fs.length ≤ 1000000)
    (h : Fed w0 S base g B1 B2 mk most w fs part 0) (f : Fr) (n : Nat) (hS : slook mk most part = (f, n, 0)) :
    Calls Tryz.prog 103 #[.pointer (some ⟨B1, 0, none⟩), .pointer (some ⟨B2, 0, none⟩)] w fun e w' => e = .returned (.bool true) ∧ Fed w0 S base g B1 B2 mk most w' (fs ++ [f]) (part.drop n) 0 := by
  obtain ⟨hp, ⟨v, hb, ho, hlo⟩, ⟨v2, hb2, ho2⟩, ht⟩ := h
  have HLO := Lib.hid hlo
  clear hlo
  obtain ⟨A, c, rfl, hlc, hcm, hrd, _, hAz⟩ := own_cases ho
  obtain ⟨A2, c2, rfl, hlc2, hcm2, hrd2, _, _⟩ := own_cases ho2
  have h2 := slook_two hin (by unfold maxLen; omega) (show (slook mk most part).2.2 = 0 by rw [hS])
  rw [hS] at h2
  simp only at h2
  obtain ⟨n2, hnl⟩ := h2
  have HLK := Lib.hid (s_look g mk most A part part.length c rfl 0 w hb hrd hin hlc hcm (by omega) hm)
  rw [hS] at HLK
  simp only at HLK
  obtain ⟨gp, off, rfl, hgp, _⟩ := hrd (by intro h'; have := congrArg List.length h'; simp [u8s] at this; rw [this] at hnl; simp at hnl; omega)
  obtain rfl : off = 0 := (hAz _ rfl).2.1
  obtain ⟨N, hN⟩ : ∃ N, N = part.length := ⟨_, rfl⟩
  have HN := Lib.hid hN
  rw [← hN] at hb ho hlc hnl hl
  obtain ⟨F, hF⟩ : ∃ F, F = fs.length := ⟨_, rfl⟩
  have HF := Lib.hid hF
  rw [← hF] at hb2 ho2 hf
  have HFC : Hid (f.cl.length = 1 * 8) := rfl
  have HFO : Hid (∀ u ∈ f.cl, u.oneCell' = true) := by have := frs_one [f]; rw [frs_single] at this; exact this
  have HFF : Hid (frs fs ++ f.cl = frs (fs ++ [f])) := by show frs fs ++ f.cl = frs (fs ++ [f]); rw [frs_append, frs_single]
  have hw0 := ht.size
  have HBS : Hid (w0.heap.size ≤ w.heap.size) := ht.size
  have hcmm : c ≤ 9223372036854775807 := by unfold maxLen at hcm; omega
  have HRD := Lib.hid hrd
  have HP := Lib.hid hp
  have HB := Lib.hid hb
  have HO := Lib.hid ho
  have HB2 := Lib.hid hb2
  have HO2 := Lib.hid ho2
  have HT := Lib.hid ht
  have p0 := hp.cell 0
  simp at p0
  have plt := hp.lt
  clear hp hb ho hb2 ho2 ht hrd hrd2 hm hin hS hcm hN hF hAz hw0
  obtain ⟨i, hi, hz0, hz1, hz2⟩ := info_parts info_fr
  obtain ⟨fin, op, masked, k0, k1, k2, k3, d⟩ := f
  simp only [Fr.cs] at HLK
  go_enter Tryz.func103, Tryz.ntmps103
  go_wp2_with fail
  refine HLK.out.mono ?_
  rintro e w1 ⟨rfl, ht⟩
  have hp1 := HP.out.touch ht (fun h => h)
  have hb1 := HB.out.touch ht (fun h => h)
  have hb21 := HB2.out.touch ht (fun h => h)
  have HO21 := Lib.hid (own_no HO2.out ht)
  have HO1 := Lib.hid (own_no HO.out ht)
  have HT1 := Lib.hid (HT.out.trans ht.of_no)
  have hs1 : w0.heap.size ≤ w1.heap.size := Nat.le_trans HBS.out ht.size
  have p0 := hp1.cell 0
  have q0 := hb21.cell 0
  have qf := hb21.frozen 0
  have plt := hp1.lt
  have qlt := hb21.lt
  simp at p0 q0
  have HP1 := Lib.hid hp1
  have HB1 := Lib.hid hb1
  have HB21 := Lib.hid hb21
  have HRN : Hid (Rd ((w1.alloc (.cells (Fr.cl ⟨fin, op, masked, k0, k1, k2, k3, d⟩).toArray 42)).alloc (.cells (Fr.cl ⟨fin, op, masked, k0, k1, k2, k3, d⟩).toArray 42)) (some ⟨w1.heap.size + 1, 0, none⟩) (Fr.cl ⟨fin, op, masked, k0, k1, k2, k3, d⟩)) := by
    have := Rd.new (w1.alloc (.cells (Fr.cl ⟨fin, op, masked, k0, k1, k2, k3, d⟩).toArray 42)) (Fr.cl ⟨fin, op, masked, k0, k1, k2, k3, d⟩) 42 (0, 0)
    rw [show (w1.alloc (.cells (Fr.cl ⟨fin, op, masked, k0, k1, k2, k3, d⟩).toArray 42)).heap.size = w1.heap.size + 1 from by simp] at this
    exact this
  clear ht hp1 hb1 hb21 HP HB HB2 HO HO2 HT HLK
  go_wp2_with (at_builtin; refine wpList_app_row _ rfl (.tmp 14) (.tmp 16) 51 rfl w0.heap.size 42 i _ 8 40 Tryz.underlying51 hi hz0 hz1 hz2 rfl (by decide) _ F (frs fs) rfl (own_no HO21.out (((Touch.refl _ _).alloc _).alloc _)) (some ⟨w1.heap.size + 1, 0, none⟩) 1 1 (Fr.cl ⟨fin, op, masked, k0, k1, k2, k3, d⟩) rfl HFC.out HRN.out HFO.out (by unfold maxLen; omega) (by omega) (by simp; omega) ?_)
  intro v2' w2 ho hgr _
  have hon := own_no HO21.out (((Touch.refl NoS _).alloc (.cells (Fr.cl ⟨fin, op, masked, k0, k1, k2, k3, d⟩).toArray 42)).alloc (.cells (Fr.cl ⟨fin, op, masked, k0, k1, k2, k3, d⟩).toArray 42))
  have hpn := (HP1.out.alloc (.cells (Fr.cl ⟨fin, op, masked, k0, k1, k2, k3, d⟩).toArray 42)).alloc (.cells (Fr.cl ⟨fin, op, masked, k0, k1, k2, k3, d⟩).toArray 42)
  have hbn := (HB1.out.alloc (.cells (Fr.cl ⟨fin, op, masked, k0, k1, k2, k3, d⟩).toArray 42)).alloc (.cells (Fr.cl ⟨fin, op, masked, k0, k1, k2, k3, d⟩).toArray 42)
  have hbn2 := (HB21.out.alloc (.cells (Fr.cl ⟨fin, op, masked, k0, k1, k2, k3, d⟩).toArray 42)).alloc (.cells (Fr.cl ⟨fin, op, masked, k0, k1, k2, k3, d⟩).toArray 42)
  have hop := own_no HO1.out (((Touch.refl NoS _).alloc (.cells (Fr.cl ⟨fin, op, masked, k0, k1, k2, k3, d⟩).toArray 42)).alloc (.cells (Fr.cl ⟨fin, op, masked, k0, k1, k2, k3, d⟩).toArray 42))
  have hp2 := hpn.grown hgr (own_ne hon hpn (by decide))
  have hb2 := hbn.grown hgr (own_ne hon hbn (by decide))
  have hb22 := hbn2.grown hgr (own_ne hon hbn2 (by decide))
  have ho2 := own_apart hop hon (by decide) hgr
  have ht2 : Touch S w0 w2 := ((HT1.out.alloc _).alloc _).grown hgr (fun k hk hl => absurd (own_base hon hk) (by omega))
  obtain ⟨g2, c2', rfl, _, _⟩ := own_out ho (by omega)
  have HP2 := Lib.hid hp2
  have HB2 := Lib.hid hb2
  have HB22 := Lib.hid hb22
  have HO2 := Lib.hid ho2
  have HO22 := Lib.hid ho
  have HT2 := Lib.hid ht2
  have q0 := hb22.cell 0
  have qf := hb22.frozen 0
  have qlt := hb22.lt
  simp at q0
  clear hon hpn hbn hbn2 hop hp2 hb2 hb22 ho2 ho ht2 hgr HP1 HB1 HB21 HO1 HO21 HT1 hs1 p0 plt HRN
  go_wp2_with fail
  have hn1 : B1 ≠ B2 := HP2.out.ne_ HB22.out (by decide)
  have hn2 : g ≠ B2 := HB2.out.ne_ HB22.out (by decide)
  obtain ⟨w3, hw3⟩ : ∃ w3, w3 = w2.setCell ⟨B2, 0, none⟩ (.slice (some ⟨g2, 0, none⟩) (F + 1) c2') := ⟨_, rfl⟩
  rw [← hw3]
  have hp3 : Blk w3 B1 103 #[.pointer (some ⟨g, 0, none⟩)] := by rw [hw3]; exact HP2.out.far hn1 _
  have hb3 : Blk w3 g 139 (stCells mk most (.slice (some ⟨gp, 0, none⟩) N c) 0) := by rw [hw3]; exact HB2.out.far hn2 _
  have HB23 : Hid (Blk w3 B2 51 #[.slice (some ⟨g2, 0, none⟩) (F + 1) c2']) := by rw [hw3]; exact HB22.out.set_ 0 _
  have ho3 : w3.ownsRow base 5 1 (.slice (some ⟨gp, 0, none⟩) N c) N (u8s part) := by rw [hw3]; exact own_far HO2.out HB22.out (by decide) _ _
  have HO23 : Hid (w3.ownsRow w0.heap.size 42 8 (.slice (some ⟨g2, 0, none⟩) (F + 1) c2') (F + 1) (frs fs ++ (Fr.cl ⟨fin, op, masked, k0, k1, k2, k3, d⟩))) := by rw [hw3]; exact own_far HO22.out HB22.out (by decide) _ _
  have HT3 : Hid (Touch S w0 w3) := by rw [hw3]; exact HT2.out.setNew (p := ⟨B2, 0, none⟩) hB2 _
  have p0 := hp3.cell 0
  have b2 := hb3.cell 2
  have f2 := hb3.frozen 2
  have plt := hp3.lt
  have glt := hb3.lt
  simp [stCells] at p0 b2
  have HP3 := Lib.hid hp3
  have HB3 := Lib.hid hb3
  obtain ⟨A5, c5, hv5, _, _, hrd, _, _⟩ := own_cases ho3
  injection hv5 with e5 _ e6
  subst e5 e6
  have hw03 := HT3.out.size
  have HRW := Lib.hid (rd_window hrd n N)
  have HNL : Hid (N - n = (part.drop n).length) := by show N - n = (part.drop n).length; rw [List.length_drop, ← HN.out]
  have HTK : Hid ((part.take N).drop n = part.drop n) := by show (part.take N).drop n = part.drop n; rw [HN.out, List.take_length]
  clear hw3 hp3 hb3 ho3 HP2 HB2 HB22 HO2 HO22 HT2 qf qlt q0 hrd HRD
  obtain ⟨j, hj, hy0, hy1, hy2⟩ := info_u8
  by_cases hcn : c = n
  · have hnN : n = N := by omega
    subst hnN
    subst hcn
    have hdr : part.drop c = [] := List.drop_eq_nil_of_le (by rw [← HN.out]; exact Nat.le_refl _)
    have HDR := Lib.hid hdr
    clear hdr
    go_region_law (first
      | (refine step_app_row _ rfl (.const (.slice none 0 0)) (.tmp 24) 43 rfl w0.heap.size 5 j _ 1 1 Tryz.underlying43 hj hy0 hy1 hy2 rfl (by decide) (.slice none 0 0) 0 [] rfl (own_nil _ _ _ _) (some ⟨gp, 0, none⟩) 0 0 (u8s []) (by simp [Act.eval, Act.put]) rfl (Rd_nil _ _) (u8s_one _) (by unfold maxLen; omega) (by omega) (by simp; omega) ?_
         intro v' w4 ho hgr _
         obtain ⟨A4, c4, rfl, _, _, _, _, _⟩ := own_cases ho
         have hb4 := HB3.out.drew.grown hgr (by simp [Value.ownBlock])
         have hp4 := HP3.out.drew.grown hgr (by simp [Value.ownBlock])
         have p0 := hp4.cell 0
         have b2 := hb4.cell 2
         have f2 := hb4.frozen 2
         have plt := hp4.lt
         have glt := hb4.lt
         simp [stCells] at p0 b2
         have HB4 := Lib.hid hb4
         have HP4 := Lib.hid hp4
         have HO4 := Lib.hid ho
         have HGR := Lib.hid hgr
         clear hb4 hp4 ho hgr))
    all_goals
      go_wp2
      go_ret
      have hn3 : B1 ≠ g := HP4.out.ne_ HB4.out (by decide)
      have hb24 := HB23.out.drew.grown HGR.out (by simp [Value.ownBlock])
      have hn4 : B2 ≠ g := hb24.ne_ HB4.out (by decide)
      have ht34 : Touch NoS w3 w4 := (Touch.refl NoS w3).drew.grown HGR.out (by intro k hk; simp [Value.ownBlock] at hk)
      refine ⟨rfl, ⟨HP4.out.far hn3 _, ⟨_, HB4.out.set_ 2 _, ?_, fun b hb => .inr (own_base (b := b) HO4.out (by simpa [Value.ownBlock] using hb))⟩, ⟨_, hb24.far hn4 _, ?_⟩, (HT3.out.trans ht34.of_no).setCell (p := ⟨g, 2, none⟩) (fun _ => hSg) _⟩⟩
      · have h := own_far (own_lower HO4.out hbs) HB4.out (by decide) 2 (.slice A4 0 c4)
        rw [HDR.out]
        exact h
      · rw [List.length_append, ← HF.out, ← HFF.out]
        exact own_far (own_no HO23.out ht34) HB4.out (by decide) _ _
  · have hcn' : (c == n) = false := by rw [beq_eq_false_iff_ne]; exact hcn
    have i1 : (n : Int) ≤ N := by omega
    have i2 : (n : Int) ≤ c := by omega
    have HX : Hid (Rd w3.drew (some ⟨gp, 0 + n, none⟩) (u8s (part.drop n))) := by have := HRW.out; rw [HTK.out] at this; exact this
    go_region_law (first
      | (refine step_app_row _ rfl (.const (.slice none 0 0)) (.tmp 24) 43 rfl w0.heap.size 5 j _ 1 1 Tryz.underlying43 hj hy0 hy1 hy2 rfl (by decide) (.slice none 0 0) 0 [] rfl (own_nil _ _ _ _) (some ⟨gp, n, none⟩) (N - n) (c - n) (u8s (part.drop n)) (by simp [Act.eval, Act.put]) (by rw [u8s_length, HNL.out, Nat.mul_one]) (by have := HX.out; rw [Nat.zero_add] at this; exact this) (u8s_one _) (by unfold maxLen; omega) (by omega) (by simp; omega) ?_
         intro v' w4 ho hgr _
         obtain ⟨A4, c4, rfl, _, _, _, _, _⟩ := own_cases ho
         have hb4 := HB3.out.drew.grown hgr (by simp [Value.ownBlock])
         have hp4 := HP3.out.drew.grown hgr (by simp [Value.ownBlock])
         have p0 := hp4.cell 0
         have b2 := hb4.cell 2
         have f2 := hb4.frozen 2
         have plt := hp4.lt
         have glt := hb4.lt
         simp [stCells] at p0 b2
         have HB4 := Lib.hid hb4
         have HP4 := Lib.hid hp4
         have HO4 := Lib.hid ho
         have HGR := Lib.hid hgr
         clear hb4 hp4 ho hgr))
    all_goals
      go_wp2
      go_ret
      have hn3 : B1 ≠ g := HP4.out.ne_ HB4.out (by decide)
      have hb24 := HB23.out.drew.grown HGR.out (by simp [Value.ownBlock])
      have hn4 : B2 ≠ g := hb24.ne_ HB4.out (by decide)
      have ht34 : Touch NoS w3 w4 := (Touch.refl NoS w3).drew.grown HGR.out (by intro k hk; simp [Value.ownBlock] at hk)
      refine ⟨rfl, ⟨HP4.out.far hn3 _, ⟨_, HB4.out.set_ 2 _, ?_, fun b hb => .inr (own_base (b := b) HO4.out (by simpa [Value.ownBlock] using hb))⟩, ⟨_, hb24.far hn4 _, ?_⟩, (HT3.out.trans ht34.of_no).setCell (p := ⟨g, 2, none⟩) (fun _ => hSg) _⟩⟩
      · have h := own_far (own_lower HO4.out hbs) HB4.out (by decide) 2 (.slice A4 (N - n) c4)
        rw [Nat.zero_add, List.nil_append] at h
        rw [← HNL.out]
        exact h
      · rw [List.length_append, ← HF.out, ← HFF.out]
        exact own_far (own_no HO23.out ht34) HB4.out (by decide) _ _
end Go.Proofs.YtlnabpoohnphiaaGreat
