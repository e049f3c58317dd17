/- msg: a message in pieces: plain laws. | stream: New, Err, Part, look. -/
import Derived.Test.YtkhppojlabajaaaZ42
import Derived.Test.YtkhppojlabajaaaZ18
import Derived.Test.YtkhppojlabajaaaZ20
import Derived.OwnWalk
/- msg: a message in pieces: plain laws. -/
namespace Go.Proofs.Ytkhppojlabajaaa
open Go.RowKit
set_option linter.unusedSimpArgs false
set_option linter.unusedVariables false

/-- The checker behind a message's beginning. -/
def Uof (op : Int) (p : ByteArray) : Uc := if op = 1 then (ufeed Uc.new (sb p)).1 else Uc.new
/-- What a message's one frame comes to. -/
def whole12 (op : Int) (a : ByteArray) : Ev × Bool × Int := if op = 1 ∧ badText (Uof op a) true = true then (Ev.zero, false, 122) else (⟨op, 0, a⟩, true, 0)
def Cst (mo op : Int) (p : ByteArray) (i : Nat) (c : Mc) : Prop := c = (if i = 0 then Mc.new mo else ⟨mo, op, p, Uof op p, false, 0⟩) ∧ (i = 0 → p = ⟨#[]⟩) ∧ (Uof op p).bad = false
theorem Uof_nil (op : Int) : Uof op ⟨#[]⟩ = Uc.new := by
  unfold Uof
  split <;> rfl
theorem Uof_append (op : Int) (h : op = 1) (p d : ByteArray) : (ufeed (Uof op p) (sb d)).1 = Uof op (p ++ d) := by
  unfold Uof
  rw [if_pos h, if_pos h, sb_append, (ufeed_append _ _ _).1]
theorem Uof_two (op : Int) (h : op = 2) (p : ByteArray) : Uof op p = Uc.new := if_neg (by omega)
theorem ufeed_stays (l : List Int) : ∀ (c : Uc), c.bad = true → (ufeed c l).1.bad = true := by
  intro c h
  cases l with
  | nil => exact h
  | cons b l => unfold ufeed; rw [if_pos h]; exact h
theorem Uof_bad (op : Int) (p d : ByteArray) (h : (Uof op p).bad = true) : (Uof op (p ++ d)).bad = true := by
  by_cases h1 : op = 1
  · rw [← Uof_append op h1]
    exact ufeed_stays _ _ h
  · unfold Uof at h
    rw [if_neg h1] at h
    cases h
theorem cst_go {mo op : Int} (hop : op = 1 ∨ op = 2) {p : ByteArray} {i : Nat} {c : Mc} (h : Cst mo op p i c) (fin : Bool) (d : ByteArray) :
    mtake c ⟨fin, if i = 0 then op else 0, false, 0, 0, 0, 0, d⟩ = mgo ⟨mo, op, p, Uof op p, false, 0⟩ ⟨fin, if i = 0 then op else 0, false, 0, 0, 0, 0, d⟩ := by
  obtain ⟨rfl, h0, _⟩ := h
  by_cases hi : i = 0
  · subst hi
    obtain rfl := h0 rfl
    rw [if_pos rfl, if_pos rfl, mt_data rfl rfl (.inr hop) (.inr rfl), Uof_nil]
    unfold mdata
    rw [if_neg (show ¬ op = 0 by omega), if_pos (show (Mc.new mo).op = 0 from rfl)]
    rfl
  · rw [if_neg hi, if_neg hi, mt_data rfl rfl (.inl rfl) (.inr rfl)]
    unfold mdata
    rw [if_pos rfl, if_neg (show ¬ op = 0 by omega)]
theorem cst_step {mo op : Int} (hop : op = 1 ∨ op = 2) {p : ByteArray} {i : Nat} {c : Mc} (h : Cst mo op p i c) (d : ByteArray) (hz : (p.size : Int) + d.size ≤ mo) :
    ((Uof op (p ++ d)).bad = true ∧ ∃ c', mtake c ⟨false, if i = 0 then op else 0, false, 0, 0, 0, 0, d⟩ = (c', Ev.zero, false, 122)) ∨
    (∃ c', mtake c ⟨false, if i = 0 then op else 0, false, 0, 0, 0, 0, d⟩ = (c', Ev.zero, false, 0) ∧ Cst mo op (p ++ d) (i + 1) c') := by
  rw [cst_go hop h]
  have hb : ∀ q : ByteArray, badText (Uof op q) false = (Uof op q).bad := fun q => by simp [badText]
  rcases hop with rfl | rfl
  · by_cases hbad : (Uof 1 (p ++ d)).bad = true
    · exact .inl ⟨hbad, _, mgo_bad (u1 := Uof 1 (p ++ d)) (by show ¬ mo < p.size + d.size; omega) rfl (Uof_append 1 rfl p d).symm (by rw [hb]; exact hbad)⟩
    · have hbad : (Uof 1 (p ++ d)).bad = false := by simpa using hbad
      refine .inr ⟨⟨mo, 1, p ++ d, Uof 1 (p ++ d), false, 0⟩, ?_, ?_⟩
      · rw [mgo_text (u1 := Uof 1 (p ++ d)) (by show ¬ mo < p.size + d.size; omega) rfl (Uof_append 1 rfl p d).symm (by rw [hb]; exact hbad)]
        rfl
      · exact ⟨by rw [if_neg (by omega)], fun h => by omega, hbad⟩
  · refine .inr ⟨⟨mo, 2, p ++ d, Uof 2 (p ++ d), false, 0⟩, ?_, ?_⟩
    · rw [mgo_bin (by show ¬ mo < p.size + d.size; omega) (by show ¬ (2 : Int) = 1; omega), Uof_two 2 rfl, Uof_two 2 rfl]
      rfl
    · exact ⟨by rw [if_neg (by omega)], fun h => by omega, by rw [Uof_two 2 rfl]; rfl⟩
theorem cst_last {mo op : Int} (hop : op = 1 ∨ op = 2) {p : ByteArray} {i : Nat} {c : Mc} (h : Cst mo op p i c) (d : ByteArray) (hz : (p.size : Int) + d.size ≤ mo) :
    ∃ c', mtake c ⟨true, if i = 0 then op else 0, false, 0, 0, 0, 0, d⟩ = (c', (whole12 op (p ++ d)).1, (whole12 op (p ++ d)).2.1, (whole12 op (p ++ d)).2.2) := by
  rw [cst_go hop h]
  rcases hop with rfl | rfl
  · by_cases hbad : badText (Uof 1 (p ++ d)) true = true
    · have hw : whole12 1 (p ++ d) = (Ev.zero, false, 122) := if_pos ⟨rfl, hbad⟩
      rw [hw]
      exact ⟨_, mgo_bad (u1 := Uof 1 (p ++ d)) (by show ¬ mo < p.size + d.size; omega) rfl (Uof_append 1 rfl p d).symm hbad⟩
    · have hw : whole12 1 (p ++ d) = (⟨1, 0, p ++ d⟩, true, 0) := if_neg (fun h => hbad h.2)
      rw [hw, mgo_text (u1 := Uof 1 (p ++ d)) (by show ¬ mo < p.size + d.size; omega) rfl (Uof_append 1 rfl p d).symm (by simpa using hbad)]
      exact ⟨_, if_neg (show ¬ true = false by simp)⟩
  · have hw : whole12 2 (p ++ d) = (⟨2, 0, p ++ d⟩, true, 0) := if_neg (fun h => absurd h.1 (by omega))
    rw [hw, mgo_bin (by show ¬ mo < p.size + d.size; omega) (by show ¬ (2 : Int) = 1; omega)]
    exact ⟨_, if_neg (show ¬ true = false by simp)⟩
theorem whole12_bad (op : Int) (hop : op = 1 ∨ op = 2) (p d : ByteArray) (h : (Uof op p).bad = true) : whole12 op (p ++ d) = (Ev.zero, false, 122) := by
  rcases hop with rfl | rfl
  · refine if_pos ⟨rfl, ?_⟩
    unfold badText
    rw [Uof_bad 1 p d h]
    rfl
  · rw [Uof_two 2 rfl] at h
    cases h
theorem whole12_is (op : Int) (a : ByteArray) : (whole12 op a).2.1 = ((whole12 op a).2.2 == 0) := by
  unfold whole12
  split <;> rfl
theorem cst_new (mo op : Int) : Cst mo op ⟨#[]⟩ 0 (Mc.new mo) := ⟨by rw [if_pos rfl], fun _ => rfl, by rw [Uof_nil]; rfl⟩
theorem cst_live {mo op : Int} {p : ByteArray} {i : Nat} {c : Mc} (h : Cst mo op p i c) : c.err = 0 ∧ c.over = false := by
  obtain ⟨rfl, _⟩ := h
  split <;> exact ⟨rfl, rfl⟩
theorem extract_split (r : ByteArray) (k : Nat) : r = r.extract 0 k ++ r.extract k r.size := by
  apply sb_inj
  rw [sb_append, sb_extract, sb_extract, List.drop_zero, List.take_of_length_le (i := r.size) (by rw [sb_length]; exact Nat.le_refl _), List.take_append_drop]

end Go.Proofs.Ytkhppojlabajaaa
/- stream: New, Err, Part, look. -/
namespace Go.Proofs.Ytkhppojlabajaaa
open Go.RowKit
set_option linter.unusedSimpArgs false
set_option linter.unusedVariables false

/-- The frame that bytes begin with, as it must be masked. -/
def slook (mk : Bool) (most : Int) (l : List Int) : Fr × Nat × Int :=
  if 1 < l.length ∧ (fget (l.take 1) most).2.2 = 91 then (Fr.zero, 0, 91)
  else if 1 < l.length ∧ decide (128 ≤ l.getD 1 0) ≠ mk then (Fr.zero, 0, 100)
  else fget l most
def stCells (mk : Bool) (most : Int) (v : Value) (er : Int) : Array Value := #[.bool mk, .int .i64 most, v, .int .i64 er]

set_option maxRecDepth 100000 in
theorem s_new (mk : Bool) (most : Int) (w : World) : Calls Try.prog 35 #[.bool mk, .int .i64 most] w fun e w' =>
    (most < 125 ∨ 65536 < most → e = .returned (.tuple #[.pointer none, .int .i64 101]) ∧ w = w') ∧
    (125 ≤ most → most ≤ 65536 → e = .returned (.tuple #[.pointer (some ⟨w.heap.size, 0, none⟩), .int .i64 0]) ∧ Blk w' w.heap.size 94 (stCells mk most (.slice none 0 0) 0) ∧ Touch NoS w w') := by
  by_cases h1 : most < 125
  · go_enter Try.func35, Try.ntmps35
    go_wp2
    go_ret2
    exact ⟨fun _ => ⟨rfl, rfl⟩, fun h => by omega⟩
  by_cases h2 : 65536 < most
  · have h1' : 125 ≤ most := by omega
    clear h1
    go_enter Try.func35, Try.ntmps35
    go_wp2
    go_ret2
    exact ⟨fun _ => ⟨rfl, rfl⟩, fun _ h => by omega⟩
  have h1' : 125 ≤ most := by omega
  have h2' : most ≤ 65536 := by omega
  clear h1 h2
  go_enter Try.func35, Try.ntmps35
  go_wp2
  go_ret2
  exact ⟨fun h => by omega, fun _ _ => ⟨rfl, Blk.new _ _ _, (Touch.refl _ _).alloc _⟩⟩
theorem s_part (g : Nat) (mk : Bool) (most : Int) (A : Option Addr) (n c : Nat) (er : Int) (w : World) (hb : Blk w g 94 (stCells mk most (.slice A n c) er)) :
    Calls Try.prog 38 #[.pointer (some ⟨g, 0, none⟩)] w fun e w' => e = .returned (.int .i64 n) ∧ w = w' := by
  have b2 := hb.cell 2
  simp [stCells] at b2
  have hlt := hb.lt
  clear hb
  go_enter Try.func38, Try.ntmps38
  go_wp2
  go_ret
  exact ⟨rfl, rfl⟩

theorem look_results (tmps : Array Value) (w : World) (f : Fr) (g : Nat) (n e : Int) (h4 : tmps.getD 2 undef = .pointer (some ⟨g, 0, none⟩)) (h5 : tmps.getD 3 undef = .int .i64 n) (h6 : tmps.getD 4 undef = .int .i64 e)
    (hb : Blk w g 44 f.cs) : (results Try.f53 tmps).run Try.prog w = .ok (.tuple #[.agg f.cs, .int .i64 n, .int .i64 e]) w := by
  have hld := fr_load hb rfl
  obtain ⟨a, b, c, d, e', h, i, j⟩ := f
  have c0 := hb.cell 0
  have c1 := hb.cell 1
  have c2 := hb.cell 2
  have c3 := hb.cell 3
  have c4 := hb.cell 4
  have c5 := hb.cell 5
  have c6 := hb.cell 6
  have c7 := hb.cell 7
  simp only [Array.getD_eq_getD_getElem?] at h4 h5 h6
  simp [Fr.cs] at c0 c1 c2 c3 c4 c5 c6 c7
  simp [results, Try.results53, go_sem, h4, h5, h6, c0, c1, c2, c3, c4, c5, c6, c7, Fr.cs]

set_option maxHeartbeats 6400000 in
set_option maxRecDepth 100000 in
theorem s_look_short (g : Nat) (mk : Bool) (most : Int) (A : Option Addr) (l : List Int) (n cap : Nat) (hn : l.length = n) (er : Int) (w : World)
    (hb : Blk w g 94 (stCells mk most (.slice A n cap) er)) (hr : Rd w A (u8s l)) (hin : bytesIn l) (hlc : n ≤ cap) (hcm : cap ≤ maxLen) (hl : n ≤ 1) (hm : (Lit.int .i64 most).wf = true) :
    Calls Try.prog 53 #[.pointer (some ⟨g, 0, none⟩)] w fun e w' => e = .returned (.tuple #[.agg (fget l most).1.cs, .int .i64 (fget l most).2.1, .int .i64 (fget l most).2.2]) ∧ Touch NoS w w' := by
  have hgl := hb.lt
  have b1 := hb.cell 1
  have b2 := hb.cell 2
  simp [stCells] at b1 b2
  have HB0 := Lib.hid hb
  obtain ⟨f, k, e, hG⟩ : ∃ f k e, fget l most = (f, k, e) := ⟨_, _, _, rfl⟩
  have HG : Hid (∀ W, Touch NoS w W → Calls Try.prog 67 #[.slice A n cap, .int .i64 most] W fun e' w' => e' = .returned (.tuple #[.agg f.cs, .int .i64 k, .int .i64 e]) ∧ Touch NoS W w') := fun W h => by
    have := f_get A l n cap hn most hm W (hr.touch_no h) hin hlc hcm (by omega)
    rw [hG] at this
    exact this
  rw [hG]
  clear hb hr hG hin hn hm hcm
  obtain ⟨fin, op, masked, k0, k1, k2, k3, d⟩ := f
  simp only [Fr.cs] at *
  go_enter Try.func53, Try.ntmps53
  go_wp2_with fail
  clear b1 b2 hgl
  obtain ⟨w1, hw1⟩ : ∃ w1, w1 = w.alloc (.cells #[.bool false, .int .i64 0, .bool false, .int .u8 0, .int .u8 0, .int .u8 0, .int .u8 0, .string ⟨#[]⟩] 44) := ⟨_, rfl⟩
  rw [← hw1]
  have HTW : Hid (Touch NoS w w1) := by rw [hw1]; exact (Touch.refl _ _).alloc _
  have HBR : Hid (Blk w1 w.heap.size 44 Fr.zero.cs) := by rw [hw1]; exact Blk.new _ _ _
  have HBS : Hid (Blk w1 g 94 (stCells mk most (.slice A n cap) er)) := by rw [hw1]; exact HB0.out.alloc _
  have hgl := HBS.out.lt
  have b1 := HBS.out.cell 1
  have b2 := HBS.out.cell 2
  simp [stCells] at b1 b2
  clear hw1
  go_region_with ((go_at_call 67; refine (HG.out _ HTW.out.drew).mono ?_; rintro e' w5 ⟨rfl, ht⟩; have hbr := HBR.out.drew.touch ht (fun h => h); have f0 := hbr.frozen 0; have f1 := hbr.frozen 1; have f2 := hbr.frozen 2; have f3 := hbr.frozen 3; have f4 := hbr.frozen 4; have f5 := hbr.frozen 5; have f6 := hbr.frozen 6; have f7 := hbr.frozen 7; have c0 := hbr.cell 0; have c1 := hbr.cell 1; have c2 := hbr.cell 2; have c3 := hbr.cell 3; have c4 := hbr.cell 4; have c5 := hbr.cell 5; have c6 := hbr.cell 6; have c7 := hbr.cell 7; simp [Fr.zero, Fr.cs] at c0 c1 c2 c3 c4 c5 c6 c7; have rl := hbr.lt; have HBR5 := Lib.hid hbr; clear hbr))
  all_goals
    obtain ⟨w6, hw6⟩ : ∃ w6, w6 = (((((((w5.setCell ⟨w.heap.size, 0, none⟩ (.bool fin)).setCell ⟨w.heap.size, 1, none⟩ (.int .i64 op)).setCell ⟨w.heap.size, 2, none⟩ (.bool masked)).setCell ⟨w.heap.size, 3, none⟩ (.int .u8 k0)).setCell ⟨w.heap.size, 4, none⟩ (.int .u8 k1)).setCell ⟨w.heap.size, 5, none⟩ (.int .u8 k2)).setCell ⟨w.heap.size, 6, none⟩ (.int .u8 k3)).setCell ⟨w.heap.size, 7, none⟩ (.string d) := ⟨_, rfl⟩
    rw [← hw6]
    have HB6 : Hid (Blk w6 w.heap.size 44 (Fr.cs ⟨fin, op, masked, k0, k1, k2, k3, d⟩)) := by rw [hw6]; exact (((((((HBR5.out.set_ 0 _).set_ 1 _).set_ 2 _).set_ 3 _).set_ 4 _).set_ 5 _).set_ 6 _).set_ 7 _
    have HT6 : Hid (Touch NoS w w6) := by rw [hw6]; exact ((((((((HTW.out.drew.trans ht).setNew (Nat.le_refl _) _).setNew (Nat.le_refl _) _).setNew (Nat.le_refl _) _).setNew (Nat.le_refl _) _).setNew (Nat.le_refl _) _).setNew (Nat.le_refl _) _).setNew (Nat.le_refl _) _).setNew (Nat.le_refl _) _
    clear hw6 ht f0 f1 f2 f3 f4 f5 f6 f7 c0 c1 c2 c3 c4 c5 c6 c7 rl HBR5
    go_wp2
    refine bodyPost_ret (v := .tuple #[.agg (Fr.cs ⟨fin, op, masked, k0, k1, k2, k3, d⟩), .int .i64 k, .int .i64 e]) (look_results _ _ _ _ _ _ rfl rfl rfl HB6.out) rfl ⟨rfl, HT6.out⟩
end Go.Proofs.Ytkhppojlabajaaa
