/- strings.Builder: copyCheck, WriteString, String. -/
import Derived.Test.YtkhppojlabajaaaZ08
import Derived.Lib.UnsafeStr
import Derived.Lib.Builder
import Derived.Lib.AppendStr
import Derived.Laws.Externs
import Derived.Shelf.RegionOpenPlain
/- strings.Builder: copyCheck, WriteString, String. -/
namespace Go.Proofs.Ytkhppojlabajaaa
open Go.RowKit
set_option linter.unusedSimpArgs false
set_option linter.unusedVariables false

/-- A builder at B that holds bs. -/
def Bd (w : World) (base B : Nat) (bs : List Value) : Prop := ∃ p v, (p = .pointer none ∨ p = .pointer (some ⟨B, 0, none⟩)) ∧ Blk w B 77 #[p, v] ∧ w.ownsRow base 5 1 v bs.length bs ∧ (bs = [] → v = .slice none 0 0)

theorem bd_size : (Try.prog.info? 77).map (·.size) = some 2 := by kernel_rfl
theorem bd_lies : liesAt Try.prog Try.prog.depth 77 (2 / Try.prog.cellsOf 77) 0 77 1 = true := by kernel_rfl
theorem mixed_ : Try.prog.follows .mixedOrders = true := by kernel_rfl
theorem u8_cells : Try.prog.cellsOf 5 = 1 := by kernel_rfl
theorem Blk.shape {w : World} {g : Nat} {t : TypeId} {cs : Array Value} (h : Blk w g t cs) : w.shape? g = some (t, cs.size) := by
  unfold Blk at h
  unfold World.shape?
  rw [h]

set_option maxHeartbeats 1600000 in
set_option maxRecDepth 100000 in
theorem b_check_new (B : Nat) (v : Value) (w : World) (hb : Blk w B 77 #[.pointer none, v]) :
    Calls Try.prog 54 #[.pointer (some ⟨B, 0, none⟩)] w fun e w' => e = .returned (.tuple #[]) ∧ w' = w.setCell ⟨B, 0, none⟩ (.pointer (some ⟨B, 0, none⟩)) := by
  obtain ⟨j, hj, hjs⟩ := Option.map_eq_some_iff.1 bd_size
  have h0 := hb.cell 0
  have hfz := hb.frozen 0
  have hlt := hb.lt
  have hsh := hb.shape
  simp at h0 hsh
  clear hb
  go_enter Try.func54, Try.ntmps54
  go_wp2
  rw [Lib.run_to_unsafe w ⟨B, 0, none⟩ Try.underlying75 Try.underlying113 hj (by rw [hjs]; decide) hsh (Nat.zero_lt_succ 1)]
  simp only [Result.andThen]
  rw [Oper.upon_value]
  go_wp2
  rw [run_callFunc_extern Try.func68 (by kernel_rfl) (by kernel_rfl) (by kernel_rfl) (e := Extern.AbiNoEscape.same) (by kernel_rfl)]
  rw [Lib.run_noEscape]
  simp only [Result.andThen]
  rw [Oper.upon_value]
  go_wp2
  rw [Lib.run_from_unsafe w ⟨B, 0, none⟩ Try.underlying113 Try.underlying75 hj hsh bd_lies]
  simp only [Result.andThen]
  rw [Oper.upon_value]
  go_wp2
  go_end0
  exact ⟨rfl, rfl⟩

set_option maxHeartbeats 1600000 in
set_option maxRecDepth 100000 in
theorem b_check_used (B : Nat) (v : Value) (w : World) (hb : Blk w B 77 #[.pointer (some ⟨B, 0, none⟩), v]) :
    Calls Try.prog 54 #[.pointer (some ⟨B, 0, none⟩)] w fun e w' => e = .returned (.tuple #[]) ∧ w' = w := by
  obtain ⟨j, hj, hjs⟩ := Option.map_eq_some_iff.1 bd_size
  have h0 := hb.cell 0
  have hlt := hb.lt
  simp at h0
  clear hb
  go_enter Try.func54, Try.ntmps54
  go_wp2
  rw [Lib.run_neq_ptr_same w _ Try.underlying75 hj]
  go_wp2
  go_end0
  exact ⟨rfl, rfl⟩

theorem b_check (B : Nat) (p v : Value) (hp : p = .pointer none ∨ p = .pointer (some ⟨B, 0, none⟩)) (w : World) (hb : Blk w B 77 #[p, v]) :
    Calls Try.prog 54 #[.pointer (some ⟨B, 0, none⟩)] w fun e w' => e = .returned (.tuple #[]) ∧ Blk w' B 77 #[.pointer (some ⟨B, 0, none⟩), v] ∧ Touch (At B) w w' := by
  rcases hp with rfl | rfl
  · refine (b_check_new B v w hb).mono ?_
    rintro e w' ⟨rfl, rfl⟩
    exact ⟨rfl, hb.set_ 0 _, (Touch.refl _ w).setAt 0 _⟩
  · refine (b_check_used B v w hb).mono ?_
    rintro e w' ⟨rfl, rfl⟩
    exact ⟨rfl, hb, Touch.refl _ _⟩

set_option maxHeartbeats 3200000 in
set_option maxRecDepth 100000 in
theorem b_write (base B : Nat) (bs : List Value) (s : ByteArray) (hl : bs.length + s.size ≤ 1000000000) (w : World) (hb : Bd w base B bs) (hbs : base ≤ w.heap.size) :
    Calls Try.prog 39 #[.pointer (some ⟨B, 0, none⟩), .string s] w fun e w' => e = .returned (.tuple #[.int .i64 s.size, .nilIface]) ∧ Bd w' base B (bs ++ Lib.strCells s) ∧ Touch (fun k => k = B ∨ base ≤ k) w w' := by
  obtain ⟨p, v, hp, hb, ho, hn⟩ := hb
  have HCK := Lib.hid (fun W => b_check B p v hp W)
  have HB := Lib.hid hb
  have HO := Lib.hid ho
  have HN := Lib.hid hn
  obtain ⟨j, hj, hy0, hy1, hy2⟩ := info_u8
  clear hb ho hn
  go_enter Try.func39, Try.ntmps39
  go_wp2_with fail
  refine (HCK.out _ HB.out).mono ?_
  rintro e w1 ⟨rfl, hb1, ht1⟩
  have HO1 := Lib.hid (own_touch HO.out ht1 (fun b hb he => own_ne HO.out HB.out (by decide) (by rw [hb]; exact congrArg some he)))
  have b0 := hb1.cell 0
  have b1 := hb1.cell 1
  have blt := hb1.lt
  have hsz := ht1.size
  simp at b0 b1
  have HB1 := Lib.hid hb1
  have HT1 := Lib.hid ht1
  clear hb1 ht1 HO HB
  go_wp2_with (at_builtin; refine Lib.wpList_append_own_string _ rfl _ _ 36 9 rfl base 5 j Try.underlying36 Try.underlying9 hj hy0 hy1 hy2 v bs.length bs rfl HO1.out s rfl (by unfold maxLen; omega) (by omega) (by omega) ?_)
  intro v2 w2 ho2 hgr hnil
  obtain ⟨A2, c2, rfl, _, _, _, _, _⟩ := own_cases ho2
  have hb2 := HB1.out.grown hgr (own_ne HO1.out HB1.out (by decide))
  have b0 := hb2.cell 0
  have b1 := hb2.cell 1
  have f1 := hb2.frozen 1
  have blt := hb2.lt
  simp at b0 b1
  have HB2 := Lib.hid hb2
  have HO2 := Lib.hid ho2
  have HG := Lib.hid hgr
  have HNIL := Lib.hid hnil
  clear ho2 hgr hnil hb2 HB1
  go_wp2
  go_ret2
  refine ⟨rfl, ⟨_, _, .inr rfl, HB2.out.set_ 1 _, ?_, ?_⟩, ?_⟩
  · rw [List.length_append, Lib.strCells_length]
    exact own_far HO2.out HB2.out (by decide) 1 _
  · intro he
    have h1 := List.append_eq_nil_iff.1 he
    refine HNIL.out.2 ⟨HN.out h1.1, ?_⟩
    have h2 := congrArg List.length h1.2
    rw [Lib.strCells_length] at h2
    simpa using h2
  · exact (((HT1.out.mono (fun k h => .inl h)).grown HG.out (fun k hk _ => .inr (own_base HO1.out hk))).setCell (p := ⟨B, 1, none⟩) (fun _ => .inl rfl) _)

set_option maxHeartbeats 3200000 in
set_option maxRecDepth 100000 in
theorem b_string (base B : Nat) (l : List UInt8) (w : World) (hb : Bd w base B (Lib.byteCells l)) (hm : l.length ≤ 1000000000) :
    Calls Try.prog 40 #[.pointer (some ⟨B, 0, none⟩)] w fun e w' => e = .returned (.string ⟨l.toArray⟩) ∧ Touch (fun k => base ≤ k) w w' := by
  obtain ⟨p, v, hp, hb, ho, hn⟩ := hb
  have mixed := mixed_
  rw [Lib.byteCells_length] at ho
  by_cases h0 : l = []
  · subst h0
    obtain rfl := hn rfl
    have b1 := (hb.drew).cell 1
    have blt := hb.lt
    simp at b1
    have hSD : (Builtin.unsafeSliceData_ #[36] 97 #[.slice none 0 0]).run Try.prog w.drew = .ok (.pointer none) w.drew := rfl
    have hUS : ∀ W q, (Builtin.unsafeString_ #[97, 3] 9 #[.pointer q, .int .i64 0]).run Try.prog W = .ok (.string .empty) W := fun W q => Lib.run_unsafeString_none W _ _ _ q
    clear hb ho hn
    go_enter Try.func40, Try.ntmps40
    go_wp2
    go_region_o
    all_goals (go_wp2; go_ret; exact ⟨rfl, (Touch.refl _ w).drew⟩)
  · have hl0 : l.length ≠ 0 := by simpa using h0
    obtain ⟨g, cap, rfl, hnc, hbg⟩ := own_out ho (by omega)
    obtain ⟨cur, hg⟩ := own_type ho (show (Value.slice (some ⟨g, 0, none⟩) l.length cap).ownBlock = some g from rfl)
    have b1 := (hb.drew).cell 1
    have blt := hb.lt
    simp at b1
    have hcur : l.length ≤ cur.size := by
      rcases ho.2 with ⟨hv, _⟩ | ⟨g', cap', cur', hv, _, hg', _, _, _, ht⟩
      · cases hv
      · injection hv with e1 _ _
        injection e1 with e1
        injection e1 with e1
        subst e1
        have e2 : cur' = cur := by
          have e3 : some (Obj.cells cur' 5 (0, 0)) = some (.cells cur 5 (0, 0)) := hg'.symm.trans hg
          injection e3 with e3
          injection e3
        subst e2
        have h5 := congrArg List.length ht
        rw [List.length_take, Lib.byteCells_length] at h5
        simp at h5
        omega
    have hSD : (Builtin.unsafeSliceData_ #[36] 97 #[.slice (some ⟨g, 0, none⟩) l.length cap]).run Try.prog w.drew = .ok (.pointer (some ⟨g, 0, none⟩)) w.drew := Lib.run_unsafeSliceData_row _ _ _ _ _ _ (by omega)
    have hUS : (Builtin.unsafeString_ #[97, 3] 9 #[.pointer (some ⟨g, 0, none⟩), .int .i64 l.length]).run Try.prog w.drew = .ok (.string ⟨l.toArray⟩) (w.drew.freeze ⟨g, 0, none⟩ l.length) := by
      refine Lib.run_unsafeString_row w.drew 97 3 9 5 Try.underlying97 u8_cells g cur.size (Blk.shape (Blk.drew hg)) l h0 hcur (by omega) ?_
      intro j x hx
      exact ho.cells (g := g) rfl j (.int .u8 x.toNat) (by simp [Lib.byteCells, hx])
    have HF : Hid (Touch (fun k => base ≤ k) w (w.drew.freeze ⟨g, 0, none⟩ l.length)) := by
      have h7 := Lib.below_freeze (Below.drew (Below.refl base w)) (p := ⟨g, 0, none⟩) hbg l.length
      exact ⟨h7.os, h7.tape, h7.output, h7.size, fun k hk hn => h7.block k (by omega)⟩
    clear hb ho hn hp hl0 hg hcur hnc h0
    go_enter Try.func40, Try.ntmps40
    go_wp2
    go_region_o
    all_goals (go_wp2; go_ret; exact ⟨rfl, HF.out⟩)
end Go.Proofs.Ytkhppojlabajaaa
