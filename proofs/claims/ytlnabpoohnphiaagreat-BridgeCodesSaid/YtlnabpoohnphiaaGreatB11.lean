/- Plain laws of frames: the bytes of a frame that is got are those that it was got of. | stream: New, Err, Part, look. | stream: look. | frame: plain laws on bytes of frames and their beginnings. -/
import Derived.Test.YtlnabpoohnphiaaGreatB10
import Derived.Test.YtlnabpoohnphiaaGreatB06
import Derived.OwnWalk
/- Plain laws of frames: the bytes of a frame that is got are those that it was got of. -/
namespace Go.Proofs.YtlnabpoohnphiaaGreat
open Go.RowKit
set_option linter.unusedSimpArgs false
set_option linter.unusedVariables false

theorem numsB_size (l : List Int) : (Go.strOfNums l).size = l.length := by
  simp [Go.strOfNums, ByteArray.size]
theorem wf_i64 {a : Int} (h0 : -9223372036854775808 ≤ a) (h1 : a ≤ 9223372036854775807) : (Lit.int .i64 a).wf = true := (Lit.wf_int_iff .i64 a).2 ⟨h0, h1⟩
theorem fdata_ok {l : List Int} (hb : bytesIn l) {fin : Bool} {op : Int} {m : Bool} {K : List Int} (hK : bytesIn K) {n : Int} {at_ : Nat} (hn : 0 ≤ n) (ha : at_ ≤ l.length) {f : Fr} {z : Nat} (h : fdata l fin op m K n at_ = (f, z, 0)) :
    f = ⟨fin, op, m, K.getD 0 0, K.getD 1 0, K.getD 2 0, K.getD 3 0, f.data⟩ ∧ sb f.data = turn K 0 ((l.drop at_).take n.toNat) ∧ z = at_ + n.toNat ∧ z ≤ l.length ∧ (f.data.size : Int) = n := by
  unfold fdata at h
  split at h
  · injection h with _ h; injection h with _ h; cases h
  · rename_i hs
    injection h with h1 h2
    injection h2 with h2 _
    have hl : ((l.drop at_).take n.toNat).length = n.toNat := by rw [List.length_take, List.length_drop]; omega
    refine ⟨by rw [← h1], ?_, h2.symm, by omega, ?_⟩
    · rw [← h1]
      exact sb_nums _ (turn_in hK _ _ ((hb.drop _).take _))
    · rw [← h1]
      show (((Go.strOfNums (turn K 0 ((l.drop at_).take n.toNat))).size : Nat) : Int) = n
      rw [numsB_size, turn_length, hl]
      omega
theorem fget_ok {l : List Int} (hb : bytesIn l) (hl : l.length ≤ maxLen) {most : Int} {f : Fr} {n : Nat} (h : fget l most = (f, n, 0)) :
    f.good ∧ form9 f = true ∧ (f.data.size : Int) ≤ most ∧ n ≤ l.length ∧ fput f = l.take n := by
  unfold fget at h
  rcases l with _ | ⟨x, t⟩
  · simp at h
  have hx := hb x (by simp)
  have ht : bytesIn t := fun y hy => hb y (by simp [hy])
  rw [if_neg (by simp), List.getD_cons_zero] at h
  split at h
  · injection h with _ h; injection h with _ h; cases h
  rename_i hbad
  unfold flen at h
  rw [List.drop_succ_cons, List.drop_zero] at h
  have e81 : ¬ ((0 : Int) = 81) := by decide
  have e0 : ¬ ((0 : Int) ≠ 0) := by decide
  rcases hG : getLen t with ⟨gn, gk, ge⟩
  rw [hG] at h
  simp only at h
  rcases getLen_cases ht with h' | h' | ⟨n', k', h', h1, h2, h3, h4, h5⟩
  · rw [hG] at h'
    injection h' with _ h'; injection h' with _ h'
    rw [h'] at h
    simp at h
  · rw [hG] at h'
    injection h' with _ h'; injection h' with _ h'
    rw [h'] at h
    simp at h
  rw [hG] at h'
  injection h' with e1 h'; injection h' with e2 e3
  subst e1 e2 e3
  obtain ⟨_, _, b1, b2, b3⟩ := getLen_back ht hG
  simp only [if_neg e81, if_neg e0] at h
  split at h
  · injection h with _ h; injection h with _ h; cases h
  rename_i hmost
  unfold fmask at h
  have hz : x / 16 % 8 = 0 := by
    rcases Decidable.em (x / 16 % 8 = 0) with h | h
    · exact h
    · exact absurd (.inl h) hbad
  have hk : known9 (x % 16) = true := by
    cases h : known9 (x % 16)
    · exact absurd (.inr (.inl h)) hbad
    · rfl
  have ht1 : 1 ≤ t.length := by omega
  have hg1 : (x :: t).getD 1 0 = t.getD 0 0 := rfl
  have hfirst : ∀ (f : Fr), f.op = x % 16 → f.fin = decide (128 ≤ x) → first9 f = x := by
    intro f h1 h2
    unfold first9
    rw [h1, h2]
    by_cases h : 128 ≤ x
    · rw [if_pos (by simp [h])]; omega
    · rw [if_neg (by simp [h])]; omega
  have hform : ∀ (f : Fr), f.op = x % 16 → f.fin = decide (128 ≤ x) → (f.data.size : Int) = gn → (f.masked = false → f.key = [0, 0, 0, 0]) → form9 f = true := by
    intro f h1 h2 h3 h4
    unfold form9
    rw [h1, h2, hk]
    have hc : (control9 (x % 16) && (!decide (128 ≤ x) || decide (125 < f.data.size))) = false := by
      cases hcn : control9 (x % 16)
      · rfl
      · simp only [Bool.true_and]
        rw [Bool.or_eq_false_iff]
        constructor
        · rw [Bool.not_eq_false']
          apply decide_eq_true
          rcases Int.lt_or_le x 128 with h | h
          · exact absurd (.inr (.inr ⟨hcn, .inl h⟩)) hbad
          · exact h
        · apply decide_eq_false
          intro h125
          have hno : ¬ 125 < (x :: t).getD 1 0 % 128 := fun h => hbad (.inr (.inr ⟨hcn, .inr ⟨by simp; omega, h⟩⟩))
          rw [hg1] at hno
          have hb0 : (t.take gk).getD 0 0 % 128 = (if 128 ≤ t.getD 0 0 then (lenB gn.toNat).set 0 ((lenB gn.toNat).getD 0 0 + 128) else lenB gn.toNat).getD 0 0 % 128 := by rw [b3]
          have hq : (t.take gk).getD 0 0 = t.getD 0 0 := by
            rw [List.getD_eq_getElem?_getD, List.getD_eq_getElem?_getD, List.getElem?_take, if_pos (by omega)]
          rw [hq] at hb0
          obtain ⟨y, u, hy, hy0, hy1⟩ := lenB_head gn.toNat
          have hlow : (lenB gn.toNat).getD 0 0 ≤ 125 := by
            rw [hy] at hb0 ⊢
            split at hb0 <;> simp only [List.getD_cons_zero, List.set_cons_zero] at hb0 ⊢ <;> omega
          have := (lenB_small gn.toNat).1 hlow
          omega
    rw [hc]
    cases hm : f.masked
    · simp [h4 hm]
    · simp
  have hop : ∀ (f : Fr), f.op = x % 16 → (Lit.int .i64 f.op).wf = true := fun f h1 => by rw [h1]; exact wf_i64 (by omega) (by omega)
  have htake : ∀ (m : Bool), (m = true ↔ 128 ≤ t.getD 0 0) → t.take gk = (if m = true then (lenB gn.toNat).set 0 ((lenB gn.toNat).getD 0 0 + 128) else lenB gn.toNat) := by
    intro m hm
    rw [b3]
    by_cases h : 128 ≤ t.getD 0 0
    · rw [if_pos h, if_pos (hm.2 h)]
    · rw [if_neg h, if_neg (fun q => h (hm.1 q))]
  rw [hg1] at h
  by_cases hv : 128 ≤ t.getD 0 0
  · rw [if_pos hv] at h
    split at h
    · injection h with _ h; injection h with _ h; cases h
    rename_i hs
    simp only [List.length_cons] at hs
    have hKin : bytesIn (((x :: t).drop (1 + gk)).take 4) := (hb.drop _).take _
    obtain ⟨f1, f2, f3, f4, f5⟩ := fdata_ok hb hKin h1 (by simp; omega) h
    have hd : (x :: t).drop (1 + gk) = t.drop gk := by rw [Nat.add_comm, List.drop_succ_cons]
    have hKl : ((t.drop gk).take 4).length = 4 := by rw [List.length_take, List.length_drop]; omega
    rw [hd] at f1 f2 hKin
    obtain ⟨K, hK⟩ : ∃ K, K = (t.drop gk).take 4 := ⟨_, rfl⟩
    rw [← hK] at f1 f2 hKl hKin
    obtain ⟨a0, a1, a2, a3, rfl⟩ : ∃ a0 a1 a2 a3, K = [a0, a1, a2, a3] := by
      rcases K with _ | ⟨a0, _ | ⟨a1, _ | ⟨a2, _ | ⟨a3, _ | ⟨a4, K⟩⟩⟩⟩⟩ <;> simp at hKl
      exact ⟨_, _, _, _, rfl⟩
    simp only [List.getD_cons_zero, List.getD_cons_succ] at f1
    have fo : f.op = x % 16 := by rw [f1]
    have ff : f.fin = decide (128 ≤ x) := by rw [f1]
    have fm : f.masked = true := by rw [f1]
    have fk : f.key = [a0, a1, a2, a3] := by rw [f1]; rfl
    simp only [List.length_cons] at f4
    refine ⟨⟨hop f fo, by rw [fk]; exact hKin, by simp only [List.length_cons] at hl; omega⟩, hform f fo ff f5 (fun h => by rw [fm] at h; cases h), by omega, f4, ?_⟩
    have hsz : f.data.size = gn.toNat := by omega
    have hlong : long9 f = t.take gk := by
      unfold long9
      rw [hsz, fm, htake true ⟨fun _ => hv, fun _ => rfl⟩]
    have hturn : turn f.key 0 (sb f.data) = ((t.drop (gk + 4)).take gn.toNat) := by
      rw [fk, f2, turn_turn hKin _ _ ((hb.drop _).take _)]
      rw [show 1 + gk + 4 = (gk + 4) + 1 from by omega, List.drop_succ_cons]
    unfold fput
    rw [hfirst f fo ff, hlong, fm, if_pos rfl, if_pos rfl, hturn, fk, hK, f3]
    rw [show 1 + gk + 4 + gn.toNat = (gk + (4 + gn.toNat)) + 1 from by omega, List.take_succ_cons, List.take_add, List.take_add, List.drop_drop]
  · rw [if_neg hv] at h
    have hKin : bytesIn ([0, 0, 0, 0] : List Int) := by intro y hy; simp at hy; omega
    obtain ⟨f1, f2, f3, f4, f5⟩ := fdata_ok hb hKin h1 (by simp; omega) h
    simp only [List.getD_cons_zero, List.getD_cons_succ] at f1
    have fo : f.op = x % 16 := by rw [f1]
    have ff : f.fin = decide (128 ≤ x) := by rw [f1]
    have fm : f.masked = false := by rw [f1]
    have fk : f.key = [0, 0, 0, 0] := by rw [f1]; rfl
    simp only [List.length_cons] at f4
    refine ⟨⟨hop f fo, by rw [fk]; exact hKin, by simp only [List.length_cons] at hl; omega⟩, hform f fo ff f5 (fun h => fk), by omega, f4, ?_⟩
    have hsz : f.data.size = gn.toNat := by omega
    have hlong : long9 f = t.take gk := by
      unfold long9
      rw [hsz, fm, htake false ⟨fun h => (by cases h), fun h => absurd h hv⟩]
    have hd : (x :: t).drop (1 + gk) = t.drop gk := by rw [Nat.add_comm, List.drop_succ_cons]
    rw [turn_zero _ _ ((hb.drop _).take _), hd] at f2
    unfold fput
    rw [hfirst f fo ff, hlong, fm, if_neg (by simp), if_neg (by simp), f2, f3, List.nil_append]
    rw [show 1 + gk + gn.toNat = (gk + gn.toNat) + 1 from by omega, List.take_succ_cons, List.take_add]
/-- What is no frame is the zero frame, no bytes. -/
theorem fget_no {l : List Int} (hb : bytesIn l) {most : Int} (h : (fget l most).2.2 ≠ 0) : (fget l most).1 = Fr.zero ∧ (fget l most).2.1 = 0 := by
  unfold fget at h ⊢
  split
  · exact ⟨rfl, rfl⟩
  rename_i h0
  rw [if_neg h0] at h
  split
  · exact ⟨rfl, rfl⟩
  rename_i h1
  rw [if_neg h1] at h
  unfold flen at h ⊢
  simp only at h ⊢
  split
  · exact ⟨rfl, rfl⟩
  rename_i h2
  rw [if_neg h2] at h
  split
  · exact ⟨rfl, rfl⟩
  rename_i h3
  rw [if_neg h3] at h
  split
  · exact ⟨rfl, rfl⟩
  rename_i h4
  rw [if_neg h4] at h
  unfold fmask at h ⊢
  split
  · rename_i h5
    rw [if_pos h5] at h
    split
    · exact ⟨rfl, rfl⟩
    rename_i h6
    rw [if_neg h6] at h
    unfold fdata at h ⊢
    split
    · exact ⟨rfl, rfl⟩
    rename_i h7
    rw [if_neg h7] at h
    exact absurd rfl h
  · rename_i h5
    rw [if_neg h5] at h
    unfold fdata at h ⊢
    split
    · exact ⟨rfl, rfl⟩
    rename_i h7
    rw [if_neg h7] at h
    exact absurd rfl h
end Go.Proofs.YtlnabpoohnphiaaGreat
/- stream: New, Err, Part, look. -/
namespace Go.Proofs.YtlnabpoohnphiaaGreat
open Go.RowKit
set_option linter.unusedSimpArgs false
set_option linter.unusedVariables false

/-- The frame that bytes begin with, as it must be masked. -/
def slook (mk : Bool) (most : Int) (l : List Int) : Fr × Nat × Int :=
  if 1 < l.length ∧ (fget (l.take 1) most).2.2 = 91 then (Fr.zero, 0, 91)
  else if 1 < l.length ∧ decide (128 ≤ l.getD 1 0) ≠ mk then (Fr.zero, 0, 100)
  else fget l most
def stCells (mk : Bool) (most : Int) (v : Value) (er : Int) : Array Value := #[.bool mk, .int .i64 most, v, .int .i64 er]

set_option maxRecDepth 100000 in
theorem s_new (mk : Bool) (most : Int) (w : World) : Calls Tryz.prog 54 #[.bool mk, .int .i64 most] w fun e w' =>
    (most < 125 ∨ 65536 < most → e = .returned (.tuple #[.pointer none, .int .i64 101]) ∧ w = w') ∧
    (125 ≤ most → most ≤ 65536 → e = .returned (.tuple #[.pointer (some ⟨w.heap.size, 0, none⟩), .int .i64 0]) ∧ Blk w' w.heap.size 139 (stCells mk most (.slice none 0 0) 0) ∧ Touch NoS w w') := by
  by_cases h1 : most < 125
  · go_enter Tryz.func54, Tryz.ntmps54
    go_wp2
    go_ret2
    exact ⟨fun _ => ⟨rfl, rfl⟩, fun h => by omega⟩
  by_cases h2 : 65536 < most
  · have h1' : 125 ≤ most := by omega
    clear h1
    go_enter Tryz.func54, Tryz.ntmps54
    go_wp2
    go_ret2
    exact ⟨fun _ => ⟨rfl, rfl⟩, fun _ h => by omega⟩
  have h1' : 125 ≤ most := by omega
  have h2' : most ≤ 65536 := by omega
  clear h1 h2
  go_enter Tryz.func54, Tryz.ntmps54
  go_wp2
  go_ret2
  exact ⟨fun h => by omega, fun _ _ => ⟨rfl, Blk.new _ _ _, (Touch.refl _ _).alloc _⟩⟩
theorem look_results (tmps : Array Value) (w : World) (f : Fr) (g : Nat) (n e : Int) (h4 : tmps.getD 2 undef = .pointer (some ⟨g, 0, none⟩)) (h5 : tmps.getD 3 undef = .int .i64 n) (h6 : tmps.getD 4 undef = .int .i64 e)
    (hb : Blk w g 42 f.cs) : (results Tryz.f104 tmps).run Tryz.prog w = .ok (.tuple #[.agg f.cs, .int .i64 n, .int .i64 e]) w := by
  have hld := fr_load hb rfl
  obtain ⟨a, b, c, d, e', h, i, j⟩ := f
  have c0 := hb.cell 0
  have c1 := hb.cell 1
  have c2 := hb.cell 2
  have c3 := hb.cell 3
  have c4 := hb.cell 4
  have c5 := hb.cell 5
  have c6 := hb.cell 6
  have c7 := hb.cell 7
  simp only [Array.getD_eq_getD_getElem?] at h4 h5 h6
  simp [Fr.cs] at c0 c1 c2 c3 c4 c5 c6 c7
  simp [results, Tryz.results104, go_sem, h4, h5, h6, c0, c1, c2, c3, c4, c5, c6, c7, Fr.cs]

set_option maxHeartbeats 6400000 in
set_option maxRecDepth 100000 in
theorem s_look_short (g : Nat) (mk : Bool) (most : Int) (A : Option Addr) (l : List Int) (n cap : Nat) (hn : l.length = n) (er : Int) (w : World)
    (hb : Blk w g 139 (stCells mk most (.slice A n cap) er)) (hr : Rd w A (u8s l)) (hin : bytesIn l) (hlc : n ≤ cap) (hcm : cap ≤ maxLen) (hl : n ≤ 1) (hm : (Lit.int .i64 most).wf = true) :
    Calls Tryz.prog 104 #[.pointer (some ⟨g, 0, none⟩)] w fun e w' => e = .returned (.tuple #[.agg (fget l most).1.cs, .int .i64 (fget l most).2.1, .int .i64 (fget l most).2.2]) ∧ Touch NoS w w' := by
  have hgl := hb.lt
  have b1 := hb.cell 1
  have b2 := hb.cell 2
  simp [stCells] at b1 b2
  have HB0 := Lib.hid hb
  obtain ⟨f, k, e, hG⟩ : ∃ f k e, fget l most = (f, k, e) := ⟨_, _, _, rfl⟩
  have HG : Hid (∀ W, Touch NoS w W → Calls Tryz.prog 122 #[.slice A n cap, .int .i64 most] W fun e' w' => e' = .returned (.tuple #[.agg f.cs, .int .i64 k, .int .i64 e]) ∧ Touch NoS W w') := fun W h => by
    have := f_get A l n cap hn most hm W (hr.touch_no h) hin hlc hcm (by omega)
    rw [hG] at this
    exact this
  rw [hG]
  clear hb hr hG hin hn hm hcm
  obtain ⟨fin, op, masked, k0, k1, k2, k3, d⟩ := f
  simp only [Fr.cs] at *
  go_enter Tryz.func104, Tryz.ntmps104
  go_wp2_with fail
  clear b1 b2 hgl
  obtain ⟨w1, hw1⟩ : ∃ w1, w1 = w.alloc (.cells #[.bool false, .int .i64 0, .bool false, .int .u8 0, .int .u8 0, .int .u8 0, .int .u8 0, .string ⟨#[]⟩] 42) := ⟨_, rfl⟩
  rw [← hw1]
  have HTW : Hid (Touch NoS w w1) := by rw [hw1]; exact (Touch.refl _ _).alloc _
  have HBR : Hid (Blk w1 w.heap.size 42 Fr.zero.cs) := by rw [hw1]; exact Blk.new _ _ _
  have HBS : Hid (Blk w1 g 139 (stCells mk most (.slice A n cap) er)) := by rw [hw1]; exact HB0.out.alloc _
  have hgl := HBS.out.lt
  have b1 := HBS.out.cell 1
  have b2 := HBS.out.cell 2
  simp [stCells] at b1 b2
  clear hw1
  go_region_with ((go_at_call 122; refine (HG.out _ HTW.out.drew).mono ?_; rintro e' w5 ⟨rfl, ht⟩; have hbr := HBR.out.drew.touch ht (fun h => h); have f0 := hbr.frozen 0; have f1 := hbr.frozen 1; have f2 := hbr.frozen 2; have f3 := hbr.frozen 3; have f4 := hbr.frozen 4; have f5 := hbr.frozen 5; have f6 := hbr.frozen 6; have f7 := hbr.frozen 7; have c0 := hbr.cell 0; have c1 := hbr.cell 1; have c2 := hbr.cell 2; have c3 := hbr.cell 3; have c4 := hbr.cell 4; have c5 := hbr.cell 5; have c6 := hbr.cell 6; have c7 := hbr.cell 7; simp [Fr.zero, Fr.cs] at c0 c1 c2 c3 c4 c5 c6 c7; have rl := hbr.lt; have HBR5 := Lib.hid hbr; clear hbr))
  all_goals
    obtain ⟨w6, hw6⟩ : ∃ w6, w6 = (((((((w5.setCell ⟨w.heap.size, 0, none⟩ (.bool fin)).setCell ⟨w.heap.size, 1, none⟩ (.int .i64 op)).setCell ⟨w.heap.size, 2, none⟩ (.bool masked)).setCell ⟨w.heap.size, 3, none⟩ (.int .u8 k0)).setCell ⟨w.heap.size, 4, none⟩ (.int .u8 k1)).setCell ⟨w.heap.size, 5, none⟩ (.int .u8 k2)).setCell ⟨w.heap.size, 6, none⟩ (.int .u8 k3)).setCell ⟨w.heap.size, 7, none⟩ (.string d) := ⟨_, rfl⟩
    rw [← hw6]
    have HB6 : Hid (Blk w6 w.heap.size 42 (Fr.cs ⟨fin, op, masked, k0, k1, k2, k3, d⟩)) := by rw [hw6]; exact (((((((HBR5.out.set_ 0 _).set_ 1 _).set_ 2 _).set_ 3 _).set_ 4 _).set_ 5 _).set_ 6 _).set_ 7 _
    have HT6 : Hid (Touch NoS w w6) := by rw [hw6]; exact ((((((((HTW.out.drew.trans ht).setNew (Nat.le_refl _) _).setNew (Nat.le_refl _) _).setNew (Nat.le_refl _) _).setNew (Nat.le_refl _) _).setNew (Nat.le_refl _) _).setNew (Nat.le_refl _) _).setNew (Nat.le_refl _) _).setNew (Nat.le_refl _) _
    clear hw6 ht f0 f1 f2 f3 f4 f5 f6 f7 c0 c1 c2 c3 c4 c5 c6 c7 rl HBR5
    go_wp2
    refine bodyPost_ret (v := .tuple #[.agg (Fr.cs ⟨fin, op, masked, k0, k1, k2, k3, d⟩), .int .i64 k, .int .i64 e]) (look_results _ _ _ _ _ _ rfl rfl rfl HB6.out) rfl ⟨rfl, HT6.out⟩
end Go.Proofs.YtlnabpoohnphiaaGreat
/- stream: look. -/
namespace Go.Proofs.YtlnabpoohnphiaaGreat
open Go.RowKit
set_option linter.unusedSimpArgs false
set_option linter.unusedVariables false

theorem farz8 {w : World} {g b : Nat} {t : TypeId} {cs : Array Value} (h : Blk w g t cs) (hne : g ≠ b) (u0 u1 u2 u3 u4 u5 u6 u7 : Value) :
    Blk ((((((((w.setCell ⟨b, 0, none⟩ u0).setCell ⟨b, 1, none⟩ u1).setCell ⟨b, 2, none⟩ u2).setCell ⟨b, 3, none⟩ u3).setCell ⟨b, 4, none⟩ u4).setCell ⟨b, 5, none⟩ u5).setCell ⟨b, 6, none⟩ u6).setCell ⟨b, 7, none⟩ u7) g t cs :=
  (((((((h.far hne _).far hne _).far hne _).far hne _).far hne _).far hne _).far hne _).far hne _
theorem setz8 {a w : World} {b : Nat} {S : Nat → Prop} (h : Touch S a w) (hb : a.heap.size ≤ b) (u0 u1 u2 u3 u4 u5 u6 u7 : Value) :
    Touch S a ((((((((w.setCell ⟨b, 0, none⟩ u0).setCell ⟨b, 1, none⟩ u1).setCell ⟨b, 2, none⟩ u2).setCell ⟨b, 3, none⟩ u3).setCell ⟨b, 4, none⟩ u4).setCell ⟨b, 5, none⟩ u5).setCell ⟨b, 6, none⟩ u6).setCell ⟨b, 7, none⟩ u7) :=
  (((((((h.setNew hb _).setNew hb _).setNew hb _).setNew hb _).setNew hb _).setNew hb _).setNew hb _).setNew hb _

set_option maxHeartbeats 12800000 in
set_option maxRecDepth 100000 in
theorem s_look_long (g : Nat) (mk : Bool) (most : Int) (gA off : Nat) (l : List Int) (n cap : Nat) (hn : l.length = n) (er : Int) (w : World)
    (hb : Blk w g 139 (stCells mk most (.slice (some ⟨gA, off, none⟩) n cap) er)) (hr : Rd w (some ⟨gA, off, none⟩) (u8s l)) (hin : bytesIn l) (hlc : n ≤ cap) (hcm : cap ≤ maxLen) (hl : 1 < n) (hl2 : n ≤ 70368744177664) (hm : (Lit.int .i64 most).wf = true) :
    Calls Tryz.prog 104 #[.pointer (some ⟨g, 0, none⟩)] w fun e w' => e = .returned (.tuple #[.agg (slook mk most l).1.cs, .int .i64 (slook mk most l).2.1, .int .i64 (slook mk most l).2.2]) ∧ Touch NoS w w' := by
  have hgl := hb.lt
  have b1 := hb.cell 1
  have b2 := hb.cell 2
  simp [stCells] at b1 b2
  have HB0 := Lib.hid hb
  obtain ⟨R, hR⟩ : ∃ R, R = slook mk most l := ⟨_, rfl⟩
  rw [← hR]
  unfold slook at hR
  obtain ⟨g', off', he, hgA, hcell⟩ := hr (by intro h; have := congrArg List.length h; simp [u8s] at this; rw [this] at hn; simp at hn; omega)
  injection he with he
  injection he with he1 he2
  subst he1 he2
  obtain ⟨v, hv⟩ : ∃ v, v = l.getD 1 0 := ⟨_, rfl⟩
  have hv1 : w.cell? ⟨gA, off + 1, none⟩ = some (.int .u8 v) := by
    apply hcell
    rw [u8s, List.getElem?_map, List.getElem?_eq_getElem (by omega), hv, List.getD_eq_getElem?_getD, List.getElem?_eq_getElem (by omega)]
    rfl
  have hv8 : 0 ≤ v ∧ v ≤ 255 := by rw [hv]; exact getD_in hin 0 (by omega) 1
  obtain ⟨y, hy⟩ : ∃ y, y = bits .and .u8 v 128 := ⟨_, rfl⟩
  obtain ⟨mb, hmb⟩ : ∃ mb, mb = decide (128 ≤ v) := ⟨_, rfl⟩
  have hyf : (y != 0) = mb := by
    rw [hy, and128 v hv8.1 hv8.2, hmb]
    by_cases h : 128 ≤ v
    · rw [if_pos h, decide_eq_true h]; rfl
    · rw [if_neg h, decide_eq_false h]; rfl
  obtain ⟨nb, hnb⟩ : ∃ nb, nb = (mb != mk) := ⟨_, rfl⟩
  have hy' := hy.symm
  have hnb' : (!(mb == mk)) = nb := hnb.symm
  rw [← hv, ← hmb] at hR
  have hne : (decide (128 ≤ v) ≠ mk) ↔ nb = true := by rw [hnb, ← hmb, bne_iff_ne]
  have hR2 : R = if (fget (l.take 1) most).2.2 = 91 then (Fr.zero, 0, 91) else if nb = true then (Fr.zero, 0, 100) else fget l most := by
    rw [hR]
    have hl1 : 1 < l.length := by omega
    simp only [hl1, true_and]
    rw [hmb]
    by_cases h : decide (128 ≤ v) ≠ mk
    · simp only [if_pos h, if_pos (hne.1 h)]
    · simp only [if_neg h, if_neg (fun k => h (hne.2 k))]
  obtain ⟨f, k, e, hG⟩ : ∃ f k e, fget l most = (f, k, e) := ⟨_, _, _, rfl⟩
  have HG : Hid (∀ W, Touch NoS w W → Calls Tryz.prog 122 #[.slice (some ⟨gA, off, none⟩) n cap, .int .i64 most] W fun e' w' => e' = .returned (.tuple #[.agg f.cs, .int .i64 k, .int .i64 e]) ∧ Touch NoS W w') := fun W h => by
    have := f_get _ l n cap hn most hm W (hr.touch_no h) hin hlc hcm (by omega)
    rw [hG] at this
    exact this
  obtain ⟨f1, kk, e1, hG1⟩ : ∃ f k e, fget (l.take 1) most = (f, k, e) := ⟨_, _, _, rfl⟩
  have HG1 : Hid (∀ W, Touch NoS w W → Calls Tryz.prog 122 #[.slice (some ⟨gA, off, none⟩) 1 cap, .int .i64 most] W fun e' w' => e' = .returned (.tuple #[.agg f1.cs, .int .i64 kk, .int .i64 e1]) ∧ Touch NoS W w') := fun W h => by
    have := f_get (some ⟨gA, off, none⟩) (l.take 1) 1 cap (by rw [List.length_take]; omega) most hm W (by
      have h1 := rd_window (hr.touch_no h) 0 1
      simpa using h1) (hin.take 1) (by omega) hcm (by omega)
    rw [hG1] at this
    exact this
  rw [hG, hG1] at hR2
  simp only at hR2
  have HR := Lib.hid hR2
  have HV1 := Lib.hid hv1
  have hcap0 : ¬ cap = 0 := by omega
  have i1 : (1 : Int) ≤ cap := by omega
  clear hb hr hG hG1 hin hn hm hcm hR hR2 hne hcell hy hv hmb hnb hv1
  obtain ⟨fin, op, masked, k0, k1, k2, k3, d⟩ := f
  obtain ⟨fin1, op1, masked1, k01, k11, k21, k31, d1⟩ := f1
  simp only [Fr.cs] at *
  go_enter Tryz.func104, Tryz.ntmps104
  go_wp2_with fail
  clear b1 b2 hgl
  obtain ⟨w1, hw1⟩ : ∃ w1, w1 = w.alloc (.cells #[.bool false, .int .i64 0, .bool false, .int .u8 0, .int .u8 0, .int .u8 0, .int .u8 0, .string ⟨#[]⟩] 42) := ⟨_, rfl⟩
  rw [← hw1]
  have HTW : Hid (Touch NoS w w1) := by rw [hw1]; exact (Touch.refl _ _).alloc _
  have HBR : Hid (Blk w1 w.heap.size 42 Fr.zero.cs) := by rw [hw1]; exact Blk.new _ _ _
  have HBS : Hid (Blk w1 g 139 (stCells mk most (.slice (some ⟨gA, off, none⟩) n cap) er)) := by rw [hw1]; exact HB0.out.alloc _
  have hgl := HBS.out.lt
  have b1 := HBS.out.cell 1
  have b2 := HBS.out.cell 2
  simp [stCells] at b1 b2
  clear hw1
  have HZ2 : Hid (Blk (w1.alloc (.cells #[.bool false, .int .i64 0, .bool false, .int .u8 0, .int .u8 0, .int .u8 0, .int .u8 0, .string ⟨#[]⟩] 42)) w1.heap.size 42 #[.bool false, .int .i64 0, .bool false, .int .u8 0, .int .u8 0, .int .u8 0, .int .u8 0, .string ⟨#[]⟩]) := Blk.new _ _ _
  have hs1 : w.heap.size ≤ w1.heap.size := HTW.out.size
  have HSZ := Lib.hid hs1
  clear hs1
  go_cut [7] (fun u wx => u = .int .i64 e1 ∧ Blk wx w.heap.size 42 Fr.zero.cs ∧ Blk wx g 139 (stCells mk most (.slice (some ⟨gA, off, none⟩) n cap) er) ∧ Touch NoS w wx)
  case first =>
    go_region_with (first
      | (go_at_call 122; refine (HG1.out _ HTW.out.drew).mono ?_; rintro e' w2 ⟨rfl, ht⟩; have HT2 := Lib.hid (HTW.out.drew.trans ht); have HR2 := Lib.hid (HBR.out.drew.touch ht (fun h => h)); have HS2 := Lib.hid (HBS.out.drew.touch ht (fun h => h)); clear ht)
      | (go_at_call 122; refine (HG1.out _ (HTW.out.alloc _).drew).mono ?_; rintro e' w2 ⟨rfl, ht⟩; have HT2 := Lib.hid ((HTW.out.alloc _).drew.trans ht); have HR2 := Lib.hid ((HBR.out.alloc _).drew.touch ht (fun h => h)); have HS2 := Lib.hid ((HBS.out.alloc _).drew.touch ht (fun h => h)); have hnb := HZ2.out.drew.touch ht (fun h => h); have d0 := hnb.cell 0; have d1 := hnb.cell 1; have d2 := hnb.cell 2; have d3 := hnb.cell 3; have d4 := hnb.cell 4; have d5 := hnb.cell 5; have d6 := hnb.cell 6; have d7 := hnb.cell 7; simp at d0 d1 d2 d3 d4 d5 d6 d7; have f0 := hnb.frozen 0; have f1 := hnb.frozen 1; have f2 := hnb.frozen 2; have f3 := hnb.frozen 3; have f4 := hnb.frozen 4; have f5 := hnb.frozen 5; have f6 := hnb.frozen 6; have f7 := hnb.frozen 7; have nl := hnb.lt; clear hnb; clear ht))
    all_goals
      go_wp2_with fail
      go_meet
      first
        | with_reducible exact ⟨rfl, HR2.out.alloc _, HS2.out.alloc _, HT2.out.alloc _⟩
        | with_reducible exact ⟨rfl, farz8 HR2.out (Nat.ne_of_lt HBR.out.lt) _ _ _ _ _ _ _ _, farz8 HS2.out (Nat.ne_of_lt hgl) _ _ _ _ _ _ _ _, setz8 HT2.out HSZ.out _ _ _ _ _ _ _ _⟩
  case rest =>
    obtain ⟨rfl, hbr, hbs, ht⟩ := hcut
    clear HTW HBR HBS HZ2 HSZ hgl b1 b2
    have HTC := Lib.hid ht
    have HBC := Lib.hid hbr
    have HSC := Lib.hid hbs
    have b0 := hbs.cell 0
    have b1 := hbs.cell 1
    have b2 := hbs.cell 2
    have hgl := hbs.lt
    simp [stCells] at b0 b1 b2
    have hcv1 := ht.cell HV1.out
    have hgAl : gA < wc.heap.size := by have := ht.size; omega
    clear ht hbr hbs HV1
    by_cases he1 : e1 = 91
    · subst he1
      have hR := HR.out
      rw [if_pos rfl] at hR
      subst hR
      go_wp2_with (refine wpList_store_row rfl 42 (.tmp 2) (.tmp 30) rfl w.heap.size Fr.zero.cs rfl rfl 42 Fr.zero.cs HBC.out fr_info rfl (fr_one _) ?_; rw [setRow_same HBC.out])
      refine bodyPost_ret (v := .tuple #[.agg Fr.zero.cs, .int .i64 0, .int .i64 91]) (look_results _ _ _ _ _ _ rfl rfl rfl HBC.out) rfl ⟨rfl, HTC.out⟩
    have hq1 : (e1 == 91) = false := by rw [beq_eq_false_iff_ne]; exact he1
    have hR := HR.out
    rw [if_neg he1] at hR
    have HRd := Lib.hid hR
    clear hR he1
    go_wp2_with fail
    go_quiet (fail)
    obtain ⟨wd, hwd⟩ : ∃ wd, wd = wc.drewN nq := ⟨_, rfl⟩
    rw [← hwd]
    have HTD : Hid (Touch NoS w wd) := by rw [hwd]; exact HTC.out.drewN _
    have HBD : Hid (Blk wd w.heap.size 42 Fr.zero.cs) := by rw [hwd]; exact HBC.out.drewN _
    have HSD : Hid (Blk wd g 139 (stCells mk most (.slice (some ⟨gA, off, none⟩) n cap) er)) := by rw [hwd]; exact HSC.out.drewN _
    clear hwd hcv1 hgAl b0 b1 b2 hgl HTC HBC HSC
    have hgl := HSD.out.lt
    have b1 := HSD.out.cell 1
    have b2 := HSD.out.cell 2
    simp [stCells] at b1 b2
    cases nb with
    | true =>
      have hR := HRd.out
      rw [if_pos rfl] at hR
      subst hR
      go_upto_region 6 with (fail)
      go_wp2_with (refine wpList_store_row rfl 42 (.tmp 2) (.tmp 45) rfl w.heap.size Fr.zero.cs rfl rfl 42 Fr.zero.cs HBD.out fr_info rfl (fr_one _) ?_; rw [setRow_same HBD.out])
      refine bodyPost_ret (v := .tuple #[.agg Fr.zero.cs, .int .i64 0, .int .i64 100]) (look_results _ _ _ _ _ _ rfl rfl rfl HBD.out) rfl ⟨rfl, HTD.out⟩
    | false =>
      have hR := HRd.out
      rw [if_neg (by simp)] at hR
      subst hR
      go_wp2_with fail
      go_region_with ((go_at_call 122; refine (HG.out _ HTD.out.drew).mono ?_; rintro e' w5 ⟨rfl, ht⟩; have hbr := HBD.out.drew.touch ht (fun h => h); have f0 := hbr.frozen 0; have f1 := hbr.frozen 1; have f2 := hbr.frozen 2; have f3 := hbr.frozen 3; have f4 := hbr.frozen 4; have f5 := hbr.frozen 5; have f6 := hbr.frozen 6; have f7 := hbr.frozen 7; have c0 := hbr.cell 0; have c1 := hbr.cell 1; have c2 := hbr.cell 2; have c3 := hbr.cell 3; have c4 := hbr.cell 4; have c5 := hbr.cell 5; have c6 := hbr.cell 6; have c7 := hbr.cell 7; simp [Fr.zero, Fr.cs] at c0 c1 c2 c3 c4 c5 c6 c7; have rl := hbr.lt; have HBR5 := Lib.hid hbr; clear hbr))
      all_goals
        obtain ⟨w6, hw6⟩ : ∃ w6, w6 = (((((((w5.setCell ⟨w.heap.size, 0, none⟩ (.bool fin)).setCell ⟨w.heap.size, 1, none⟩ (.int .i64 op)).setCell ⟨w.heap.size, 2, none⟩ (.bool masked)).setCell ⟨w.heap.size, 3, none⟩ (.int .u8 k0)).setCell ⟨w.heap.size, 4, none⟩ (.int .u8 k1)).setCell ⟨w.heap.size, 5, none⟩ (.int .u8 k2)).setCell ⟨w.heap.size, 6, none⟩ (.int .u8 k3)).setCell ⟨w.heap.size, 7, none⟩ (.string d) := ⟨_, rfl⟩
        rw [← hw6]
        have HB6 : Hid (Blk w6 w.heap.size 42 (Fr.cs ⟨fin, op, masked, k0, k1, k2, k3, d⟩)) := by rw [hw6]; exact (((((((HBR5.out.set_ 0 _).set_ 1 _).set_ 2 _).set_ 3 _).set_ 4 _).set_ 5 _).set_ 6 _).set_ 7 _
        have HT6 : Hid (Touch NoS w w6) := by rw [hw6]; exact ((((((((HTD.out.drew.trans ht).setNew (Nat.le_refl _) _).setNew (Nat.le_refl _) _).setNew (Nat.le_refl _) _).setNew (Nat.le_refl _) _).setNew (Nat.le_refl _) _).setNew (Nat.le_refl _) _).setNew (Nat.le_refl _) _).setNew (Nat.le_refl _) _
        clear hw6 ht f0 f1 f2 f3 f4 f5 f6 f7 c0 c1 c2 c3 c4 c5 c6 c7 rl HBR5
        go_wp2
        refine bodyPost_ret (v := .tuple #[.agg (Fr.cs ⟨fin, op, masked, k0, k1, k2, k3, d⟩), .int .i64 k, .int .i64 e]) (look_results _ _ _ _ _ _ rfl rfl rfl HB6.out) rfl ⟨rfl, HT6.out⟩
end Go.Proofs.YtlnabpoohnphiaaGreat
/- frame: plain laws on bytes of frames and their beginnings. -/
namespace Go.Proofs.YtlnabpoohnphiaaGreat
open Go.RowKit
set_option linter.unusedSimpArgs false
set_option linter.unusedVariables false

theorem check_form {f : Fr} (h : check9 f = 0) : form9 f = true ∧ f.data.size ≤ 65536 := ⟨(check_ok h).2.2, (check_ok h).2.1⟩
theorem size9_le (f : Fr) : size9 f ≤ f.data.size + 14 := by
  have h1 : (if 65536 ≤ f.data.size then 8 else if 125 < f.data.size then 2 else 0) ≤ 8 := by split; omega; split <;> omega
  have h2 : (if f.masked = true then 4 else 0) ≤ 4 := by split <;> omega
  unfold size9
  omega
theorem size9_ge (f : Fr) : 2 ≤ size9 f := by unfold size9; omega
/-- The beginning of a frame's bytes that holds its length: too long is told. -/
theorem fget_long {f : Fr} (hf : f.good) (hc : form9 f = true) (most : Int) (hm : most < f.data.size) (n : Nat) (hn : 1 + (lenB f.data.size).length ≤ n) : fget ((fput f).take n) most = (Fr.zero, 0, 92) := by
  have hz : f.data.size ≤ 9223372036854775807 := hf.2.2
  have hk : known9 f.op = true ∧ (control9 f.op = true → f.fin = true ∧ f.data.size ≤ 125) := by
    have h := hc
    unfold form9 at h
    simp only [Bool.and_eq_true, Bool.not_eq_true'] at h
    refine ⟨h.1.1, fun hcn => ?_⟩
    have h2 := h.1.2
    rw [hcn] at h2
    simp at h2
    exact h2
  have hop : 0 ≤ f.op ∧ f.op ≤ 10 := by
    have := hk.1
    unfold known9 at this
    have := of_decide_eq_true this
    omega
  obtain ⟨x, t, hx, hx1, hx2⟩ := long9_head f
  have hl := long9_length f
  obtain ⟨T, hT⟩ : ∃ T, (fput f).take n = first9 f :: (long9 f ++ T) := by
    refine ⟨(((if f.masked = true then f.key else []) ++ (if f.masked = true then turn f.key 0 (sb f.data) else sb f.data))).take (n - 1 - (long9 f).length), ?_⟩
    unfold fput
    rw [show n = (n - 1) + 1 from by omega, List.take_succ_cons, List.take_append, List.take_of_length_le (by omega), show n - 1 + 1 - 1 = n - 1 from by omega]
  rw [hT]
  have hG : getLen (long9 f ++ T) = ((f.data.size : Int), (lenB f.data.size).length, 0) := getLen_lenB f.data.size (by omega) f.masked T
  have hf0 : first9 f % 16 = f.op := by unfold first9; split <;> omega
  have hf1 : first9 f / 16 % 8 = 0 := by unfold first9; split <;> omega
  have hf2 : decide (128 ≤ first9 f) = f.fin := by
    unfold first9
    cases hfin : f.fin
    · simp; omega
    · simp; omega
  have h1 : (first9 f :: (long9 f ++ T)).getD 1 0 = x := by rw [hx]; rfl
  have hbad : ¬ ((first9 f :: (long9 f ++ T)).getD 0 0 / 16 % 8 ≠ 0 ∨ known9 ((first9 f :: (long9 f ++ T)).getD 0 0 % 16) = false ∨ (control9 ((first9 f :: (long9 f ++ T)).getD 0 0 % 16) = true ∧ ((first9 f :: (long9 f ++ T)).getD 0 0 < 128 ∨ (1 < (first9 f :: (long9 f ++ T)).length ∧ 125 < (first9 f :: (long9 f ++ T)).getD 1 0 % 128)))) := by
    rw [h1, List.getD_cons_zero, hf0, hf1, hk.1, hx1]
    rintro (h | h | ⟨h, h2⟩)
    · exact h rfl
    · cases h
    · obtain ⟨h3, h4⟩ := hk.2 h
      rw [h3] at hf2
      have := of_decide_eq_true hf2
      rcases h2 with h2 | ⟨_, h2⟩
      · omega
      · have := (lenB_small f.data.size).2 h4
        omega
  unfold fget
  rw [if_neg (by simp), if_neg hbad]
  unfold flen
  simp only [List.drop_succ_cons, List.drop_zero, hG]
  rw [if_neg (by omega), if_neg (by omega), if_pos (.inr hm)]
theorem fget_full {f : Fr} (hf : f.good) (hc : form9 f = true) (most : Int) : fget (fput f) most = if most < f.data.size then (Fr.zero, 0, 92) else (f, (fput f).length, 0) := by
  have := fget_fput f hf hc [] most
  rwa [List.append_nil] at this
theorem fput_bytes {f : Fr} (hf : f.good) (hc : form9 f = true) : bytesIn (fput f) := by
  refine fput_in f hf ?_
  have h := hc
  unfold form9 at h
  simp only [Bool.and_eq_true, Bool.not_eq_true'] at h
  have := h.1.1
  unfold known9 at this
  have := of_decide_eq_true this
  omega
/-- A beginning of a frame's bytes that isn't too long is none yet, or all of them. -/
theorem fget_begin {f : Fr} (hf : f.good) (hc : form9 f = true) (most : Int) (hm : ¬ most < f.data.size) (n : Nat) (hn : n ≤ (fput f).length) (hl : (fput f).length ≤ maxLen) : (fget ((fput f).take n) most).2.2 = 90 ∨ n = (fput f).length := by
  by_cases he : (fget ((fput f).take n) most).2.2 = 90
  · exact .inl he
  · right
    have hb := fput_bytes hf hc
    have e : fput f = (fput f).take n ++ (fput f).drop n := (List.take_append_drop n _).symm
    have hb2 := hb
    rw [e] at hb2
    have hmono := fget_mono hb2 most he
    rw [← e, fget_full hf hc, if_neg hm] at hmono
    have hn2 := congrArg (fun q => q.2.1) hmono
    simp only at hn2
    by_cases h0 : (fget ((fput f).take n) most).2.2 = 0
    · -- the bytes that it takes are in the beginning
      have h4 : (fget ((fput f).take n) most).2.1 ≤ ((fput f).take n).length := by
        exact (fget_ok (hb.take n) (by rw [List.length_take]; omega) (most := most) (f := (fget ((fput f).take n) most).1) (n := (fget ((fput f).take n) most).2.1) (by rw [← h0])).2.2.2.1
      rw [← hn2, List.length_take] at h4
      omega
    · have := congrArg (fun q => q.2.2) hmono
      simp only at this
      exact absurd this.symm h0

theorem zero_good (fin : Bool) (op : Int) (h : 0 ≤ op ∧ op ≤ 15) (d : ByteArray) (hd : d.size ≤ maxLen) : (Fr.mk fin op false 0 0 0 0 d).good :=
  ⟨wf_i64 (by show -9223372036854775808 ≤ op; omega) (by show op ≤ 9223372036854775807; omega), by intro x hx; simp [Fr.key] at hx; omega, hd⟩
end Go.Proofs.YtlnabpoohnphiaaGreat
