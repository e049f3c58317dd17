/- msg: data. -/
import Derived.Test.YtlnabpoohnphiaaGreatB15
import Derived.Lib.AppendStr
/- msg: data. -/
namespace Go.Proofs.YtlnabpoohnphiaaGreat
open Go.RowKit
set_option linter.unusedSimpArgs false
set_option linter.unusedVariables false

theorem strCells_sb (s : ByteArray) : Lib.strCells s = u8s (sb s) := by simp [Lib.strCells, u8s, sb]
/-- Where a row lies to which a string's bytes were appended. -/
theorem app_str_loc {P : Program} (w : World) (base : Nat) (t u ty e : TypeId) (i : TypeInfo) (ht : P.underlying t = some (.slice e)) (hu : P.underlying u = some .string) (hi : P.info? e = some i) (hz : i.zero = some (.int .u8 0))
    (hsize : i.size = 1) (hby : i.bytes = 1) (v : Value) (n : Nat) (xs : List Value) (hown : w.ownsRow base e 1 v n xs) (s : ByteArray) (hbytes : n + s.size ≤ 140737488355328)
    (v' : Value) (w' : World) (hr : (Builtin.append_ #[t, u] ty #[v, .string s]).run P w = .ok v' w') : v'.ownBlock = v.ownBlock ∨ v'.ownBlock = some w.heap.size := by
  have hl := hown.1
  rcases hown.2 with ⟨rfl, rfl⟩ | ⟨g, cap, cur, rfl, hbg, hg, hnc, hcm, hcs, htake⟩
  · by_cases h0 : s.size = 0
    · have hf := Lib.run_firstCells_string (P := P) w 1 s
      rw [h0] at hf
      simp [Builtin.append_, run_underlying ht, run_underlying hu, sizeOf, typeInfo, hi, hsize, Builtin.lenOf, h0, hf] at hr
      exact .inl (by rw [← hr.1])
    · rw [run_append_nil_string (P := P) w t u ty e i (.int .u8 0) ht hu hi hz s (by omega) (by omega) (by rw [hby]; omega)] at hr
      injection hr with h1 _
      exact .inr (by rw [← h1]; rfl)
  · by_cases hroom : n + s.size ≤ cap
    · rw [Lib.run_append_room_string (P := P) w t u ty e i ht hu hi hsize g n cap cur hg s hroom (by omega)] at hr
      injection hr with h1 _
      exact .inl (by rw [← h1]; rfl)
    · rw [Lib.run_append_grow_string (P := P) w t u ty e i (.int .u8 0) ht hu hi hz ⟨g, 0, none⟩ n cap xs (by rw [hsize]; exact hl) (hown.cells (g := g) rfl) s (by omega) (by omega) (by rw [hby]; exact growslice_fits (by omega) (by omega))] at hr
      injection hr with h1 _
      exact .inr (by rw [← h1]; rfl)
/-- append of a string's bytes, as a step of a region that draws. -/
theorem step_app_str {P : Program} (w : World) {ops : Array Oper} {o : Oper} {a : Act} {K : Act → World → Prop} {Q : Exit → Act → World → Prop} {E : Prop} (hgd : o.guard = none) (sl x : Operand) (t u : TypeId)
    (ho : o.op = .call { callee := .builtin .append, args := #[sl, x], argTypes := #[t, u] })
    (base : Nat) (e : TypeId) (i : TypeInfo) (ht : P.underlying t = some (.slice e)) (hu : P.underlying u = some .string) (hi : P.info? e = some i) (hz : i.zero = some (.int .u8 0))
    (hsize : i.size = 1) (hby : i.bytes = 1)
    (v : Value) (n : Nat) (xs : List Value) (hs : a.eval sl = v) (hown : w.ownsRow base e 1 v n xs) (s : ByteArray) (hx : a.eval x = .string s)
    (h63 : n + s.size ≤ maxLen) (hbytes : n + s.size ≤ 140737488355328) (hbase : base ≤ w.heap.size)
    (h : ∀ v' w', w'.ownsRow base e 1 v' (n + s.size) (xs ++ Lib.strCells s) → w.grownBy w' v.ownBlock → (v'.ownBlock = v.ownBlock ∨ v'.ownBlock = some w.heap.size) → K (a.put o.dst v') w') :
    if Region.wanted o (yielded ops a.tmps) = true then Oper.wp P o a w K Q else E := by
  have hw : Region.wanted o (yielded ops a.tmps) = true := by simp [Region.wanted, hgd]
  rw [if_pos hw]
  obtain ⟨v', w', hr, h2, h3, h4⟩ := Lib.run_append_own_string (P := P) w base t u o.type e i ht hu hi hz hsize hby v n xs hown s h63 hbytes hbase
  unfold Oper.wp execOp
  simp only [ho, resolve, invoke, builtin, Sem.run_bind, Sem.run_pure, Result.andThen_ok, List.map_toArray, List.map_cons, List.map_nil, hs, hx, hr]
  exact h v' w' h2 h3 (app_str_loc w base t u o.type e i ht hu hi hz hsize hby v n xs hown s hbytes v' w' hr)
theorem data_results (tmps : Array Value) (w : World) (x : Ev) (g : Nat) (b : Bool) (e : Int) (h4 : tmps.getD 4 undef = .pointer (some ⟨g, 0, none⟩)) (h5 : tmps.getD 5 undef = .bool b) (h6 : tmps.getD 6 undef = .int .i64 e)
    (hb : Blk w g 37 (evAgg x)) : (results Tryz.f126 tmps).run Tryz.prog w = .ok (.tuple #[.agg (evAgg x), .bool b, .int .i64 e]) w := by
  have hld := ev_load hb rfl
  obtain ⟨a, b, c⟩ := x
  have c0 := hb.cell 0
  have c1 := hb.cell 1
  have c2 := hb.cell 2
  simp only [Array.getD_eq_getD_getElem?] at h4 h5 h6
  simp [evAgg] at c0 c1 c2
  simp [results, Tryz.results126, go_sem, h4, h5, h6, c0, c1, c2, hld]
theorem three_blocks (w : World) (t1 t2 t3 : TypeId) (c1 c2 c3 : Array Value) : Blk (((w.alloc (.cells c1 t1)).alloc (.cells c2 t2)).alloc (.cells c3 t3)) w.heap.size t1 c1 ∧ Blk (((w.alloc (.cells c1 t1)).alloc (.cells c2 t2)).alloc (.cells c3 t3)) (w.heap.size + 1) t2 c2 ∧
    Blk (((w.alloc (.cells c1 t1)).alloc (.cells c2 t2)).alloc (.cells c3 t3)) (w.heap.size + 1 + 1) t3 c3 ∧ Touch NoS w (((w.alloc (.cells c1 t1)).alloc (.cells c2 t2)).alloc (.cells c3 t3)) := by
  have h2 := Blk.new (w.alloc (.cells c1 t1)) t2 c2
  have h3 := Blk.new ((w.alloc (.cells c1 t1)).alloc (.cells c2 t2)) t3 c3
  simp at h2 h3
  exact ⟨((Blk.new w t1 c1).alloc _).alloc _, h2.alloc _, h3, (((Touch.refl _ _).alloc _).alloc _).alloc _⟩
theorem mgo_bad {c : Mc} {f : Fr} {u1 : Uc} (h0 : ¬ c.most < c.part.size + f.data.size) (h1 : c.op = 1) (hu : u1 = (ufeed c.u (sb f.data)).1) (hb : badText u1 f.fin = true) : mgo c f = ({ c with u := u1 }.stop 122, Ev.zero, false, 122) := by
  unfold mgo
  rw [if_neg h0, if_pos h1, ← hu]
  exact if_pos hb
theorem mgo_text {c : Mc} {f : Fr} {u1 : Uc} (h0 : ¬ c.most < c.part.size + f.data.size) (h1 : c.op = 1) (hu : u1 = (ufeed c.u (sb f.data)).1) (hb : badText u1 f.fin = false) : mgo c f =
    if f.fin = false then ({ c with u := u1, part := c.part ++ f.data }, Ev.zero, false, 0) else ({ c with u := u1 }.stop 0, ⟨c.op, 0, c.part ++ f.data⟩, true, 0) := by
  unfold mgo
  rw [if_neg h0, if_pos h1, ← hu]
  exact if_neg (fun h => by have h' : badText u1 f.fin = true := h; rw [hb] at h'; cases h')
theorem mgo_bin {c : Mc} {f : Fr} (h0 : ¬ c.most < c.part.size + f.data.size) (h1 : ¬ c.op = 1) : mgo c f =
    if f.fin = false then ({ c with u := c.u, part := c.part ++ f.data }, Ev.zero, false, 0) else ({ c with u := c.u }.stop 0, ⟨c.op, 0, c.part ++ f.data⟩, true, 0) := by
  unfold mgo
  rw [if_neg h0, if_neg h1]

set_option maxHeartbeats 12800000 in
set_option maxRecDepth 100000 in
theorem m_data_v (base g cu : Nat) (c : Mc) (hc : c.good) (f : Fr) (hz : f.data.size ≤ 100000000) (hfo : f.op = 0 ∨ f.op = 1 ∨ f.op = 2) (v : Value) (w : World) (hb : Blk w g 143 (mCells c.most c.op v cu c.over c.err)) (ho : w.ownsRow base 5 1 v c.part.size (u8s (sb c.part))) (hu : IsU w cu c.u) (hbs : base ≤ w.heap.size) :
    Calls Tryz.prog 126 #[.pointer (some ⟨g, 0, none⟩), .agg f.cs] w fun x w' => x = .returned (.tuple #[.agg (evAgg (mdata c f).2.1), .bool (mdata c f).2.2.1, .int .i64 (mdata c f).2.2.2]) ∧ (∃ v1, IsMv w' base g cu (mdata c f).1 v1 ∧ Loc w v v1) ∧ Touch (MO g cu v) w w' := by
  have hmf : ∀ (fn : Fn) (first cap : Array Value) (w : World), (Instr.makeFunc fn first cap).run Tryz.prog w = .ok (.func fn first cap) w := fun _ _ _ _ => rfl
  obtain ⟨R, hR⟩ : ∃ R, R = mdata c f := ⟨_, rfl⟩
  rw [← hR]
  have hbl := hb.lt
  have hul : cu < w.heap.size := hu.lt
  have hgu : g ≠ cu := hb.ne_ hu (by decide)
  have hneg : w.heap.size + 1 + 1 ≠ g := by omega
  have hneu : w.heap.size + 1 + 1 ≠ cu := by omega
  obtain ⟨j, hj, hy0, hy1, hy2⟩ := info_u8
  by_cases hcase : (f.op = 0 ∧ c.op = 0) ∨ (f.op ≠ 0 ∧ c.op ≠ 0)
  · have hM : mdata c f = (c.stop 120, Ev.zero, false, 120) := by
      unfold mdata
      rcases hcase with ⟨h1, h2⟩ | ⟨h1, h2⟩
      · rw [if_pos h1, if_pos h2]
      · rw [if_neg h1, if_neg h2]
    have HR := Lib.hid (hR.trans hM)
    obtain ⟨z, hz1, hz2⟩ : ∃ z : Bool, (f.op == 0) = z ∧ (c.op != 0) = !z := by
      rcases hcase with ⟨h1, h2⟩ | ⟨h1, h2⟩
      · exact ⟨true, by rw [h1]; rfl, by rw [h2]; rfl⟩
      · exact ⟨false, by rw [beq_eq_false_iff_ne]; exact h1, by rw [Bool.not_false, bne_iff_ne]; exact h2⟩
    have hz3 : (z != !z) = true := by cases z <;> rfl
    have HB := Lib.hid hb
    have HU := Lib.hid hu
    have HO := Lib.hid ho
    obtain ⟨fin, op, masked, k0, k1, k2, k3, d⟩ := f
    simp only [Fr.cs] at *
    clear hb ho hu hM hR hcase hz hfo
    go_enter Tryz.func126, Tryz.ntmps126
    go_wp2_with fail
    obtain ⟨w3, hw3⟩ : ∃ w3, w3 = (((w.alloc (.cells #[.pointer (some ⟨g, 0, none⟩)] 104)).alloc (.cells #[.bool fin, .int .i64 op, .bool masked, .int .u8 k0, .int .u8 k1, .int .u8 k2, .int .u8 k3, .string d] 42)).alloc (.cells #[.int .i64 0, .int .i64 0, .string ⟨#[]⟩] 37)) := ⟨_, rfl⟩
    obtain ⟨hbm, hbf, hbr, ht⟩ := three_blocks w 104 42 37 #[.pointer (some ⟨g, 0, none⟩)] #[.bool fin, .int .i64 op, .bool masked, .int .u8 k0, .int .u8 k1, .int .u8 k2, .int .u8 k3, .string d] #[.int .i64 0, .int .i64 0, .string ⟨#[]⟩]
    rw [← hw3] at hbm hbf hbr ht ⊢
    have HT3 := Lib.hid ht
    have HB3 := Lib.hid (HB.out.touch ht (fun h => h))
    have HU3 := Lib.hid (Blk.touch (w := w) HU.out ht (fun h => h))
    have HO3 := Lib.hid (own_no HO.out ht)
    have HBM3 := Lib.hid hbm
    have HBF3 := Lib.hid hbf
    have HBR3 := Lib.hid hbr
    have a0 := hbm.cell 0
    have b1 := hbf.cell 1
    have y1 := HB3.out.cell 1
    have l0 := hbm.lt
    have l1 := hbf.lt
    have l2 := hbr.lt
    have l3 := HB3.out.lt
    simp [mCells] at a0 b1 y1
    clear hw3 ht hbm hbf hbr
    go_quiet (fail)
    go_wp2_with fail
    refine (m_stop g c.most c.op v cu c.over c.err 120 _ (HB3.out.drewN _)).mono ?_
    rintro e w9 ⟨rfl, hb9, ht9⟩
    have HB9 := Lib.hid hb9
    have HT9 := Lib.hid ht9
    have HBR9 := Lib.hid (Blk.touch (HBR3.out.drewN _) ht9 hneg)
    have HU9 := Lib.hid (Blk.touch (HU3.out.drewN _) ht9 (fun h => hgu h.symm))
    clear hb9 ht9
    go_wp2_with (refine wpList_store_row rfl 37 (.tmp 4) (.tmp 20) rfl (w.heap.size + 1 + 1) #[.int .i64 0, .int .i64 0, .string ⟨#[]⟩] rfl rfl 37 #[.int .i64 0, .int .i64 0, .string ⟨#[]⟩] HBR9.out ev_info rfl (ev_one _ _ _) ?_; rw [setRow_same HBR9.out])
    refine bodyPost_ret (v := .tuple #[.agg (evAgg Ev.zero), .bool false, .int .i64 120]) (data_results _ _ Ev.zero _ _ _ rfl rfl rfl HBR9.out) rfl ?_
    rw [HR.out]
    exact ⟨rfl, ⟨.slice none 0 0, ⟨HB9.out, own_nil _ _ _ _, HU9.out⟩, Loc.nil_ _ _⟩, Touch.trans (HT3.out.of_no.drewN _) (HT9.out.mono fun k hk => .inl hk)⟩
  obtain ⟨z, hz1, hz2, hz4⟩ : ∃ z : Bool, (f.op == 0) = z ∧ (c.op != 0) = z ∧ (c.op == 0) = !z := by
    by_cases h1 : f.op = 0
    · have h2 : c.op ≠ 0 := fun h => hcase (.inl ⟨h1, h⟩)
      exact ⟨true, by rw [h1]; rfl, by rw [bne_iff_ne]; exact h2, by rw [Bool.not_true, beq_eq_false_iff_ne]; exact h2⟩
    · have h2 : c.op = 0 := by
        by_cases h : c.op = 0
        · exact h
        · exact absurd (.inr ⟨h1, h⟩) hcase
      exact ⟨false, by rw [beq_eq_false_iff_ne]; exact h1, by rw [h2]; rfl, by rw [h2]; rfl⟩
  have hz3 : (z != z) = false := by cases z <;> rfl
  obtain ⟨c1, hc1⟩ : ∃ c1, c1 = if z = true then c else { c with op := f.op, u := Uc.new } := ⟨_, rfl⟩
  have HC1 : Hid ((z = true → c1 = c) ∧ (z = false → c1 = { c with op := f.op, u := Uc.new })) := ⟨fun h => by rw [hc1, if_pos h], fun h => by rw [hc1, if_neg (by rw [h]; simp)]⟩
  have hM : mdata c f = mgo c1 f := by
    unfold mdata
    by_cases h1 : f.op = 0
    · rw [if_pos h1, if_neg (fun h => hcase (.inl ⟨h1, h⟩)), HC1.out.1 (by rw [← hz1, h1]; rfl)]
    · rw [if_neg h1, HC1.out.2 (by rw [← hz1, beq_eq_false_iff_ne]; exact h1), if_pos (by by_cases h : c.op = 0; exact h; exact absurd (.inr ⟨h1, h⟩) hcase)]
  have hg1 : c1.good := by
    cases z with
    | true => rw [HC1.out.1 rfl]; exact hc
    | false => rw [HC1.out.2 rfl]; exact ⟨hc.most, hfo, new_ok, fun _ => by show (0 : Int) ≤ _; omega, hc.size⟩
  obtain ⟨e1, e2, e3, e4⟩ : c1.most = c.most ∧ c1.over = c.over ∧ c1.err = c.err ∧ c1.part = c.part := by
    cases z with
    | true => rw [HC1.out.1 rfl]; exact ⟨rfl, rfl, rfl, rfl⟩
    | false => rw [HC1.out.2 rfl]; exact ⟨rfl, rfl, rfl, rfl⟩
  have HE1 := Lib.hid e1
  have HE2 := Lib.hid e2
  have HE3 := Lib.hid e3
  have HE4 := Lib.hid e4
  have HR := Lib.hid (hR.trans hM)
  have HG1 := Lib.hid hg1
  have hps := hg1.size
  have hms := hg1.most
  have hoc := hg1.count
  have HOC := Lib.hid hoc
  obtain ⟨Av, cv, rfl, _, _, hrv, _, _⟩ := own_cases ho
  have HB := Lib.hid hb
  have HU := Lib.hid hu
  have HO := Lib.hid ho
  obtain ⟨F, hF⟩ : ∃ F, F = f := ⟨_, rfl⟩
  rw [← hF] at HR
  have HF := Lib.hid hF
  obtain ⟨fin, op, masked, k0, k1, k2, k3, d⟩ := f
  simp only [Fr.cs] at *
  obtain ⟨V, hV⟩ : ∃ V, V = Value.slice Av c.part.size cv := ⟨_, rfl⟩
  have HV := Lib.hid hV
  rw [← hV] at HB HO ⊢
  clear hb ho hu hM hR hcase hc hfo hc1 hg1 e1 e2 e3 e4 hrv hoc hF hV
  go_enter Tryz.func126, Tryz.ntmps126
  go_wp2_with fail
  obtain ⟨w3, hw3⟩ : ∃ w3, w3 = (((w.alloc (.cells #[.pointer (some ⟨g, 0, none⟩)] 104)).alloc (.cells #[.bool fin, .int .i64 op, .bool masked, .int .u8 k0, .int .u8 k1, .int .u8 k2, .int .u8 k3, .string d] 42)).alloc (.cells #[.int .i64 0, .int .i64 0, .string ⟨#[]⟩] 37)) := ⟨_, rfl⟩
  obtain ⟨hbm, hbf, hbr, ht⟩ := three_blocks w 104 42 37 #[.pointer (some ⟨g, 0, none⟩)] #[.bool fin, .int .i64 op, .bool masked, .int .u8 k0, .int .u8 k1, .int .u8 k2, .int .u8 k3, .string d] #[.int .i64 0, .int .i64 0, .string ⟨#[]⟩]
  rw [← hw3] at hbm hbf hbr ht ⊢
  have HT3 := Lib.hid ht
  have HB3 := Lib.hid (HB.out.touch ht (fun h => h))
  have HU3 := Lib.hid (Blk.touch (w := w) HU.out ht (fun h => h))
  have HO3 := Lib.hid (own_no HO.out ht)
  have HBM3 := Lib.hid hbm
  have HBF3 := Lib.hid hbf
  have HBR3 := Lib.hid hbr
  have a0 := hbm.cell 0
  have b1 := hbf.cell 1
  have y1 := HB3.out.cell 1
  have l0 := hbm.lt
  have l1 := hbf.lt
  have l2 := hbr.lt
  have l3 := HB3.out.lt
  simp [mCells] at a0 b1 y1
  clear hw3 ht hbm hbf hbr
  go_quiet (fail)
  have hbm4 := HBM3.out.drewN nq
  have hbf4 := HBF3.out.drewN nq
  have hbr4 := HBR3.out.drewN nq
  have hb4 := HB3.out.drewN nq
  have hu4 : Blk _ cu _ _ := Blk.drewN (w := w3) HU3.out nq
  have ho4 : (w3.drewN nq).ownsRow base 5 1 V c.part.size (u8s (sb c.part)) := HO3.out
  have ht4 : Touch NoS w (w3.drewN nq) := HT3.out.drewN nq
  obtain ⟨w4, hw4⟩ : ∃ w4, w4 = w3.drewN nq := ⟨_, rfl⟩
  rw [← hw4] at hbm4 hbf4 hbr4 hb4 hu4 ho4 ht4 ⊢
  have HBM4 := Lib.hid hbm4
  have HBF4 := Lib.hid hbf4
  have HBR4 := Lib.hid hbr4
  have HB4 := Lib.hid hb4
  have HU4 := Lib.hid hu4
  have HO4 := Lib.hid ho4
  have HT4 := Lib.hid ht4
  have a0 := hbm4.cell 0
  have b1 := hbf4.cell 1
  have c1' := hb4.cell 1
  have c3 := hb4.cell 3
  have f1 := hb4.frozen 1
  have l0 := hbm4.lt
  have l1 := hbf4.lt
  have l3 := hb4.lt
  simp [mCells] at a0 b1 c1' c3
  clear hbm4 hbf4 hbr4 hb4 hu4 ho4 ht4 hw4 HBM3 HBF3 HBR3 HB3 HU3 HO3 HT3
  go_upto_if 27 with (fail)
  go_cut [] (fun wx => Blk wx w.heap.size 104 #[.pointer (some ⟨g, 0, none⟩)] ∧ Blk wx (w.heap.size + 1) 42 #[.bool fin, .int .i64 op, .bool masked, .int .u8 k0, .int .u8 k1, .int .u8 k2, .int .u8 k3, .string d] ∧ Blk wx (w.heap.size + 1 + 1) 37 #[.int .i64 0, .int .i64 0, .string ⟨#[]⟩] ∧ Blk wx g 143 (mCells c1.most c1.op V cu c1.over c1.err) ∧ wx.ownsRow base 5 1 V c1.part.size (u8s (sb c1.part)) ∧ IsU wx cu c1.u ∧ Touch (MO g cu V) w wx)
  case first =>
    cases z with
    | true =>
      obtain rfl := HC1.out.1 rfl
      go_wp2_with fail
      go_meet
      exact ⟨HBM4.out, HBF4.out, HBR4.out, HB4.out, HO4.out, HU4.out, HT4.out.of_no⟩
    | false =>
      obtain rfl := HC1.out.2 rfl
      have hb5 := HB4.out.set_ 1 (.int .i64 op)
      have c3' := hb5.cell 3
      simp [mCells] at c3'
      go_wp2_with fail
      refine (u_reset cu c.u _ (Blk.far HU4.out (p := ⟨g, 1, none⟩) (fun h => hgu h.symm) _)).mono ?_
      rintro e w6 ⟨rfl, hu6, ht6⟩
      have HU6 := Lib.hid hu6
      have ht56 : Touch (fun k => k = g ∨ k = cu) w4 w6 := Touch.trans ((Touch.refl _ w4).setCell (p := ⟨g, 1, none⟩) (fun _ => .inl rfl) (.int .i64 op)) (ht6.mono fun k hk => .inr hk)
      have HB6 := Lib.hid (hb5.touch ht6 hgu)
      have HT6 := Lib.hid ht56
      clear hu6 ht6 hb5 c3' ht56
      go_wp2_with fail
      go_meet
      refine ⟨HBM4.out.touch HT6.out (by intro h; omega), HBF4.out.touch HT6.out (by intro h; omega), HBR4.out.touch HT6.out (by intro h; omega), HB6.out, ?_, HU6.out, HT4.out.of_no.trans (HT6.out.mono fun k hk => hk.elim .inl fun h => .inr (.inl h))⟩
      exact own_touch HO4.out HT6.out (fun b hb he => by
        rcases he with rfl | rfl
        · exact own_ne HO4.out HB4.out (by decide) hb
        · exact own_ne HO4.out HU4.out (by decide) hb)
  case rest =>
  obtain ⟨hbm, hbf, hbr, hb, ho, hu, ht⟩ := hcut
  have HBMc := Lib.hid hbm
  have HBFc := Lib.hid hbf
  have HBRc := Lib.hid hbr
  have HBc := Lib.hid hb
  have HOc := Lib.hid ho
  have HUc := Lib.hid hu
  have HTc := Lib.hid ht
  have a0 := hbm.cell 0
  have b7 := hbf.cell 7
  have b0 := hbf.cell 0
  have c0 := hb.cell 0
  have c1' := hb.cell 1
  have c2 := hb.cell 2
  have l0 := hbm.lt
  have l1 := hbf.lt
  have l2 := hbr.lt
  have l3 := hb.lt
  simp [mCells] at a0 b7 b0 c0 c1' c2
  obtain ⟨pn, hpn⟩ : ∃ n, n = c1.part.size := ⟨_, rfl⟩
  have HPN := Lib.hid hpn
  have hVs : V = .slice Av pn cv := by rw [HV.out, hpn, HE4.out]
  rw [hVs] at c2
  rw [← hpn] at hps HOC
  have HVS := Lib.hid hVs
  have hw1 : IntKind.i64.wrap ((pn : Int) + d.size) = (pn : Int) + d.size := IntWalk.i64_in _ (by omega)
  clear hbm hbf hbr hb ho hu ht hpn hVs HBM4 HBF4 HBR4 HB4 HU4 HO4 HT4 HC1 hz1 hz2 hz3 hz4
  go_wp2_with fail
  go_quiet (fail)
  have hbm5 := HBMc.out.drewN nq
  have hbf5 := HBFc.out.drewN nq
  have hbr5 := HBRc.out.drewN nq
  have hb5 := HBc.out.drewN nq
  have hu5 : IsU _ cu c1.u := Blk.drewN (w := wc) HUc.out nq
  have ho5 : (wc.drewN nq).ownsRow base 5 1 V c1.part.size (u8s (sb c1.part)) := HOc.out
  have ht5 : Touch (MO g cu V) w (wc.drewN nq) := HTc.out.drewN nq
  obtain ⟨w5, hw5⟩ : ∃ w5, w5 = wc.drewN nq := ⟨_, rfl⟩
  rw [← hw5] at hbm5 hbf5 hbr5 hb5 hu5 ho5 ht5 ⊢
  have HBM5 := Lib.hid hbm5
  have HBF5 := Lib.hid hbf5
  have HBR5 := Lib.hid hbr5
  have HB5 := Lib.hid hb5
  have HU5 := Lib.hid hu5
  have HO5 := Lib.hid ho5
  have HT5 := Lib.hid ht5
  have a0 := hbm5.cell 0
  have b7 := hbf5.cell 7
  have b0 := hbf5.cell 0
  have c1' := hb5.cell 1
  have l0 := hbm5.lt
  have l1 := hbf5.lt
  have l3 := hb5.lt
  simp [mCells] at a0 b7 b0 c1'
  have hsz5 := ht5.size
  clear hbm5 hbf5 hbr5 hb5 hu5 ho5 ht5 hw5 HBMc HBFc HBRc HBc HUc HOc HTc
  by_cases hbig : c1.most < (pn : Int) + d.size
  · have hM2 : R = (c1.stop 121, Ev.zero, false, 121) := by
      rw [HR.out]
      unfold mgo
      rw [if_pos (by rw [← HPN.out, HF.out]; exact hbig)]
    have HR := Lib.hid hM2
    clear hM2
    go_wp2_with fail
    refine (m_stop g c1.most c1.op V cu c1.over c1.err 121 _ HB5.out).mono ?_
    rintro e w9 ⟨rfl, hb9, ht9⟩
    have HB9 := Lib.hid hb9
    have HT9 := Lib.hid ht9
    have HBR9 := Lib.hid (Blk.touch HBR5.out ht9 hneg)
    have HU9 := Lib.hid (Blk.touch HU5.out ht9 (fun h => hgu h.symm))
    clear hb9 ht9
    go_wp2_with (refine wpList_store_row rfl 37 (.tmp 4) (.tmp 54) rfl (w.heap.size + 1 + 1) #[.int .i64 0, .int .i64 0, .string ⟨#[]⟩] rfl rfl 37 #[.int .i64 0, .int .i64 0, .string ⟨#[]⟩] HBR9.out ev_info rfl (ev_one _ _ _) ?_; rw [setRow_same HBR9.out])
    refine bodyPost_ret (v := .tuple #[.agg (evAgg Ev.zero), .bool false, .int .i64 121]) (data_results _ _ Ev.zero _ _ _ rfl rfl rfl HBR9.out) rfl ?_
    rw [HR.out]
    exact ⟨rfl, ⟨.slice none 0 0, ⟨HB9.out, own_nil _ _ _ _, HU9.out⟩, Loc.nil_ _ _⟩, Touch.trans HT5.out (HT9.out.mono fun k hk => .inl hk)⟩
  have hsm : (pn : Int) + d.size ≤ c1.most := by omega
  have HNB : Hid (¬ c1.most < (c1.part.size : Int) + F.data.size) := by
    show ¬ _
    rw [← HPN.out, HF.out]
    exact hbig
  clear hbig
  by_cases hop1 : c1.op = 1
  · have q1 : (c1.op == 1) = true := by rw [beq_iff_eq]; exact hop1
    have HOP := Lib.hid hop1
    have hcnt := HOC.out hop1
    obtain ⟨u1, hu1⟩ : ∃ u1, u1 = (ufeed c1.u (sb d)).1 := ⟨_, rfl⟩
    have HWR := Lib.hid (m_wrong w.heap.size (w.heap.size + 1) g cu c1.most c1.op V c1.over c1.err c1.u ⟨fin, op, masked, k0, k1, k2, k3, d⟩ w5 HBM5.out HBF5.out HB5.out HU5.out HG1.out.ok (by exact hz) (by omega))
    simp only at HWR
    rw [← hu1] at HWR
    have HU1 := Lib.hid hu1
    obtain ⟨bt, hbt⟩ : ∃ b, b = badText u1 fin := ⟨_, rfl⟩
    rw [← hbt] at HWR
    have HBT := Lib.hid hbt
    clear hop1 hu1 hbt
    go_wp2_with fail
    refine HWR.out.mono ?_
    rintro e w6 ⟨rfl, hu6, ht6⟩
    have HU6 := Lib.hid hu6
    have HBM6 := Lib.hid (HBM5.out.touch ht6 (by intro h; have : w.heap.size = cu := h; omega))
    have HBF6 := Lib.hid (HBF5.out.touch ht6 (by intro h; have : w.heap.size + 1 = cu := h; omega))
    have HBR6 := Lib.hid (HBR5.out.touch ht6 (by intro h; have : w.heap.size + 1 + 1 = cu := h; omega))
    have HB6 := Lib.hid (HB5.out.touch ht6 hgu)
    have HO6 := Lib.hid (own_touch HO5.out ht6 (fun b hb he => by
      have he' : b = cu := he
      subst he'
      exact own_ne HO5.out HU5.out (by decide) hb))
    have HT6 := Lib.hid (HT5.out.trans (ht6.mono fun k hk => .inr (.inl hk)))
    have a0 := HBM6.out.cell 0
    have l0 := HBM6.out.lt
    simp at a0
    clear hu6 ht6 HWR HBM5 HBF5 HBR5 HB5 HU5 HO5 HT5
    cases bt with
    | true =>
      have hM2 : R = ({ c1 with u := u1 }.stop 122, Ev.zero, false, 122) := by
        rw [HR.out]
        exact mgo_bad (u1 := u1) (by have := HNB.out; omega) HOP.out (by rw [HF.out]; exact HU1.out) (by rw [HF.out]; exact HBT.out.symm)
      have HR := Lib.hid hM2
      clear hM2
      go_wp2_with fail
      refine (m_stop g c1.most c1.op V cu c1.over c1.err 122 _ HB6.out).mono ?_
      rintro e w9 ⟨rfl, hb9, ht9⟩
      have HB9 := Lib.hid hb9
      have HT9 := Lib.hid ht9
      have HBR9 := Lib.hid (Blk.touch HBR6.out ht9 hneg)
      have HU9 := Lib.hid (Blk.touch HU6.out ht9 (fun h => hgu h.symm))
      clear hb9 ht9
      go_wp2_with (refine wpList_store_row rfl 37 (.tmp 4) (.tmp 69) rfl (w.heap.size + 1 + 1) #[.int .i64 0, .int .i64 0, .string ⟨#[]⟩] rfl rfl 37 #[.int .i64 0, .int .i64 0, .string ⟨#[]⟩] HBR9.out ev_info rfl (ev_one _ _ _) ?_; rw [setRow_same HBR9.out])
      refine bodyPost_ret (v := .tuple #[.agg (evAgg Ev.zero), .bool false, .int .i64 122]) (data_results _ _ Ev.zero _ _ _ rfl rfl rfl HBR9.out) rfl ?_
      rw [HR.out]
      exact ⟨rfl, ⟨.slice none 0 0, ⟨HB9.out, own_nil _ _ _ _, HU9.out⟩, Loc.nil_ _ _⟩, Touch.trans HT6.out (HT9.out.mono fun k hk => .inl hk)⟩
    | false =>
      go_wp2_with fail
      have a0 := HBM6.out.cell 0
      have b7 := HBF6.out.cell 7
      have b0 := HBF6.out.cell 0
      have c2 := HB6.out.cell 2
      have l0 := HBM6.out.lt
      have l1 := HBF6.out.lt
      have l3 := HB6.out.lt
      simp [mCells] at a0 b7 b0 c2
      have hsz6 := HT6.out.size
      obtain ⟨PS, hPS⟩ : ∃ P, P = u8s (sb c1.part) := ⟨_, rfl⟩
      have HOv : Hid (w6.ownsRow base 5 1 V pn PS) := by show w6.ownsRow base 5 1 V pn PS; rw [HPN.out, hPS]; exact HO6.out
      have HPS := Lib.hid hPS
      have hdz : pn + d.size ≤ 1048576 := by omega
      clear hPS
      go_cut [] (fun wx => ∃ v2, Loc w V v2 ∧ Blk wx w.heap.size 104 #[.pointer (some ⟨g, 0, none⟩)] ∧ Blk wx (w.heap.size + 1) 42 #[.bool fin, .int .i64 op, .bool masked, .int .u8 k0, .int .u8 k1, .int .u8 k2, .int .u8 k3, .string d] ∧ Blk wx (w.heap.size + 1 + 1) 37 #[.int .i64 0, .int .i64 0, .string ⟨#[]⟩] ∧ Blk wx g 143 (mCells c1.most c1.op v2 cu c1.over c1.err) ∧ wx.ownsRow base 5 1 v2 (pn + d.size) (PS ++ Lib.strCells d) ∧ IsU wx cu u1 ∧ Touch (MO g cu V) w wx)
      case first =>
        go_region_law (refine step_app_str _ rfl (.tmp 76) (.tmp 78) 43 9 rfl base 5 j Tryz.underlying43 Tryz.underlying9 hj hy0 hy1 hy2 V pn PS (by simp [Act.eval, Act.put]) (own_no HOv.out (Touch.refl _ _).drew) d (by simp [Act.eval, Act.put]) (by unfold maxLen; omega) (by omega) (by simp; omega) ?_; intro v2 w2 ho2 hgr hloc; have HLC := Lib.hid hloc; obtain ⟨Aq, cq, rfl, _⟩ := own_cases ho2; have hgx := ((Touch.refl (MO g cu V) w6).drew.grown hgr (fun k hk _ => .inr (.inr hk))); have hb2 := Blk.touch HB6.out ((Touch.refl (fun k => V.ownBlock = some k) w6).drew.grown hgr (fun k hk _ => hk)) (own_ne HOv.out HB6.out (by decide)); have HB2 := Lib.hid hb2; have HG2 := Lib.hid hgr; have HO2 := Lib.hid ho2; have HX2 := Lib.hid hgx; have c2 := hb2.cell 2; have f2 := hb2.frozen 2; have l3 := hb2.lt; have hbm2 := Blk.touch HBM6.out ((Touch.refl (fun k => V.ownBlock = some k) w6).drew.grown hgr (fun k hk _ => hk)) (own_ne HOv.out HBM6.out (by decide)); have a0 := hbm2.cell 0; have l0 := hbm2.lt; simp [mCells] at c2 a0; have HBM2 := Lib.hid hbm2; clear ho2 hgr hloc hgx hb2 hbm2)
        all_goals
          have htv : Touch (fun k => V.ownBlock = some k) w6 w2 := (Touch.refl _ w6).drew.grown HG2.out (fun k hk _ => hk)
          have HTV := Lib.hid htv
          clear htv
          go_wp2_with fail
          go_meet
          refine ⟨_, Loc.app HLC.out (by simp; omega), HBM2.out.far (by intro h; have : w.heap.size = g := h; omega) _, ((Blk.touch HBF6.out HTV.out (own_ne HOv.out HBF6.out (by decide))).far (by intro h; have : w.heap.size + 1 = g := h; omega) _), ((Blk.touch HBR6.out HTV.out (own_ne HOv.out HBR6.out (by decide))).far (by intro h; have : w.heap.size + 1 + 1 = g := h; omega) _), HB2.out.set_ 2 _, own_far HO2.out HB2.out (by decide) 2 _, ((Blk.touch (w := w6) HU6.out HTV.out (own_ne HOv.out HU6.out (by decide))).far (fun h => hgu h.symm) _), (HT6.out.trans HX2.out).setCell (p := ⟨g, 2, none⟩) (fun _ => .inl rfl) _⟩
      case rest =>
      obtain ⟨v2, hlc, hbm, hbf, hbr, hb, ho, hu, ht⟩ := hcut
      have HLCd := Lib.hid hlc
      clear hlc
      obtain ⟨wd, rfl⟩ : ∃ wd : World, wd = wc := ⟨_, rfl⟩
      have hpart : u8s (sb (c1.part ++ F.data)) = PS ++ Lib.strCells d := by rw [sb_append, u8s_append, ← HPS.out, strCells_sb, HF.out]
      have hpsz : (c1.part ++ F.data).size = pn + d.size := by rw [ByteArray.size_append, ← HPN.out, HF.out]
      rw [← hpart, ← hpsz] at ho
      obtain ⟨A2, c2', rfl, _, _, hrd2, _, _⟩ := own_cases ho
      obtain ⟨Y, hY⟩ : ∃ Y, Y = c1.part ++ F.data := ⟨_, rfl⟩
      rw [← hY] at ho hrd2 hb hpsz HLCd
      have hYz : Y.size ≤ 1048576 := by omega
      clear hpsz
      have HBMd := Lib.hid hbm
      have HBFd := Lib.hid hbf
      have HBRd := Lib.hid hbr
      have HBd := Lib.hid hb
      have HOd := Lib.hid ho
      have HUd := Lib.hid hu
      have HTd := Lib.hid ht
      have HYY := Lib.hid hY
      have a0 := hbm.cell 0
      have b0 := hbf.cell 0
      have c1' := hb.cell 1
      have c2 := hb.cell 2
      have l0 := hbm.lt
      have l1 := hbf.lt
      have l2 := hbr.lt
      have l3 := hb.lt
      simp [mCells] at a0 b0 c1' c2
      have HRDd := Lib.hid hrd2
      clear hbm hbf hbr hb ho hu ht hpart hY hrd2 HBM6 HBF6 HBR6 HB6 HO6 HU6 HT6 HOv HPS
      cases fin with
      | false =>
        have hM2 : R = ({ c1 with u := u1, part := Y }, Ev.zero, false, 0) := by
          rw [HR.out, mgo_text (u1 := u1) (by have := HNB.out; omega) HOP.out (by rw [HF.out]; exact HU1.out) (by rw [HF.out]; exact HBT.out.symm), if_pos (show F.fin = false by rw [HF.out]), ← HYY.out]
        have HR := Lib.hid hM2
        clear hM2
        go_wp2_with (refine wpList_store_row rfl 37 (.tmp 4) (.tmp 85) rfl (w.heap.size + 1 + 1) #[.int .i64 0, .int .i64 0, .string ⟨#[]⟩] rfl rfl 37 #[.int .i64 0, .int .i64 0, .string ⟨#[]⟩] HBRd.out ev_info rfl (ev_one _ _ _) ?_; rw [setRow_same HBRd.out])
        refine bodyPost_ret (v := .tuple #[.agg (evAgg Ev.zero), .bool false, .int .i64 0]) (data_results _ _ Ev.zero _ _ _ rfl rfl rfl HBRd.out) rfl ?_
        rw [HR.out]
        exact ⟨rfl, ⟨_, ⟨HBd.out, HOd.out, HUd.out⟩, HLCd.out⟩, HTd.out⟩
      | true =>
        have hM2 : R = ({ c1 with u := u1 }.stop 0, ⟨c1.op, 0, Y⟩, true, 0) := by
          rw [HR.out, mgo_text (u1 := u1) (by have := HNB.out; omega) HOP.out (by rw [HF.out]; exact HU1.out) (by rw [HF.out]; exact HBT.out.symm), if_neg (show ¬ F.fin = false by rw [HF.out]; simp), ← HYY.out]
        have HR := Lib.hid hM2
        have hcv : ∀ W, Touch NoS wd W → (convert 43 9 (.slice A2 Y.size c2')).run Tryz.prog W = .ok (.string Y) W := fun W hW => by
          have := conv_str W A2 (sb Y) Y.size c2' (sb_length Y) (HRDd.out.touch_no hW)
          rwa [sb_inj (sb_nums _ (sb_in Y))] at this
        have hcv1 := hcv wd.drew (Touch.refl _ _).drew
        have hcv2 := hcv (wd.alloc (.cells #[.int .i64 0, .int .i64 0, .string ⟨#[]⟩] 37)).drew ((Touch.refl _ _).alloc _).drew
        clear hM2 hcv
        go_wp2_with fail
        go_cut [8] (fun s8 wx => ∃ gx, s8 = .pointer (some ⟨gx, 0, none⟩) ∧ wd.heap.size ≤ gx ∧ Blk wx gx 37 (evAgg ⟨c1.op, 0, Y⟩) ∧ Touch NoS wd wx)
        case first =>
          go_region
          all_goals
            go_wp2_with fail
            go_meet
            exact ⟨wd.heap.size, rfl, Nat.le_refl _, Blk.drew (Blk.new wd _ _), ((Touch.refl _ _).alloc _).drew⟩
        case rest =>
        obtain ⟨gx, rfl, hgx, hbx, ht⟩ := hcut
        obtain ⟨we, rfl⟩ : ∃ we : World, we = wc := ⟨_, rfl⟩
        have HBXe := Lib.hid hbx
        have HBMe := Lib.hid (HBMd.out.touch ht (fun h => h))
        have HBRe := Lib.hid (HBRd.out.touch ht (fun h => h))
        have HBe := Lib.hid (HBd.out.touch ht (fun h => h))
        have HUe := Lib.hid (Blk.touch (w := wd) HUd.out ht (fun h => h))
        have HTe := Lib.hid (HTd.out.trans ht.of_no)
        have hne1 : gx ≠ g := by omega
        have hne2 : gx ≠ w.heap.size + 1 + 1 := by omega
        clear hbx ht hcv1 hcv2 a0 c1' c2 b0
        have a0 := HBMe.out.cell 0
        have l0 := HBMe.out.lt
        simp at a0
        go_wp2_with fail
        refine (m_stop g c1.most c1.op (.slice A2 Y.size c2') cu c1.over c1.err 0 _ HBe.out).mono ?_
        rintro e w9 ⟨rfl, hb9, ht9⟩
        have HB9 := Lib.hid hb9
        have HT9 := Lib.hid ht9
        have HBR9 := Lib.hid (Blk.touch HBRe.out ht9 hneg)
        have HBX9 := Lib.hid (Blk.touch HBXe.out ht9 hne1)
        have HU9 := Lib.hid (Blk.touch (w := we) HUe.out ht9 (fun h => hgu h.symm))
        have x0 := HBX9.out.cell 0
        have x1 := HBX9.out.cell 1
        have x2 := HBX9.out.cell 2
        have xl := HBX9.out.lt
        simp [evAgg] at x0 x1 x2
        clear hb9 ht9
        go_wp2_with (refine wpList_store_row rfl 37 (.tmp 4) (.tmp 98) rfl (w.heap.size + 1 + 1) #[.int .i64 c1.op, .int .i64 0, .string Y] rfl rfl 37 #[.int .i64 0, .int .i64 0, .string ⟨#[]⟩] HBR9.out ev_info rfl (ev_one _ _ _) ?_)
        have hbr : Blk (w9.setRow (w.heap.size + 1 + 1) #[.int .i64 c1.op, .int .i64 0, .string Y]) (w.heap.size + 1 + 1) 37 (evAgg ⟨c1.op, 0, Y⟩) := HBR9.out.row
        have hfar : ∀ k, k ≠ (w.heap.size + 1 + 1) → (w9.setRow (w.heap.size + 1 + 1) #[.int .i64 c1.op, .int .i64 0, .string Y]).heap[k]? = w9.heap[k]? := fun k hk => setRow_other w9 _ k _ hk
        refine bodyPost_ret (v := .tuple #[.agg (evAgg ⟨c1.op, 0, Y⟩), .bool true, .int .i64 0]) (data_results _ _ ⟨c1.op, 0, Y⟩ _ _ _ rfl rfl rfl hbr) rfl ?_
        rw [HR.out]
        refine ⟨rfl, ⟨.slice none 0 0, ⟨?_, own_nil _ _ _ _, ?_⟩, Loc.nil_ _ _⟩, ?_⟩
        · exact (hfar g (fun h => hneg h.symm)).trans HB9.out
        · exact (hfar cu (fun h => hneu h.symm)).trans HU9.out
        · exact (Touch.trans HTe.out (HT9.out.mono fun k hk => .inl hk)).row (by omega) _
  · have q1 : (c1.op == 1) = false := by rw [beq_eq_false_iff_ne]; exact hop1
    have HOP := Lib.hid hop1
    clear hop1
    go_wp2_with fail
    have a0 := HBM5.out.cell 0
    have b7 := HBF5.out.cell 7
    have b0 := HBF5.out.cell 0
    have c2 := HB5.out.cell 2
    have l0 := HBM5.out.lt
    have l1 := HBF5.out.lt
    have l3 := HB5.out.lt
    simp [mCells] at a0 b7 b0 c2
    have hsz6 := HT5.out.size
    obtain ⟨PS, hPS⟩ : ∃ P, P = u8s (sb c1.part) := ⟨_, rfl⟩
    have HOv : Hid (w5.ownsRow base 5 1 V pn PS) := by show w5.ownsRow base 5 1 V pn PS; rw [HPN.out, hPS]; exact HO5.out
    have HPS := Lib.hid hPS
    have hdz : pn + d.size ≤ 1048576 := by omega
    clear hPS
    go_cut [] (fun wx => ∃ v2, Loc w V v2 ∧ Blk wx w.heap.size 104 #[.pointer (some ⟨g, 0, none⟩)] ∧ Blk wx (w.heap.size + 1) 42 #[.bool fin, .int .i64 op, .bool masked, .int .u8 k0, .int .u8 k1, .int .u8 k2, .int .u8 k3, .string d] ∧ Blk wx (w.heap.size + 1 + 1) 37 #[.int .i64 0, .int .i64 0, .string ⟨#[]⟩] ∧ Blk wx g 143 (mCells c1.most c1.op v2 cu c1.over c1.err) ∧ wx.ownsRow base 5 1 v2 (pn + d.size) (PS ++ Lib.strCells d) ∧ IsU wx cu c1.u ∧ Touch (MO g cu V) w wx)
    case first =>
      go_region_law (refine step_app_str _ rfl (.tmp 76) (.tmp 78) 43 9 rfl base 5 j Tryz.underlying43 Tryz.underlying9 hj hy0 hy1 hy2 V pn PS (by simp [Act.eval, Act.put]) (own_no HOv.out (Touch.refl _ _).drew) d (by simp [Act.eval, Act.put]) (by unfold maxLen; omega) (by omega) (by simp; omega) ?_; intro v2 w2 ho2 hgr hloc; have HLC := Lib.hid hloc; obtain ⟨Aq, cq, rfl, _⟩ := own_cases ho2; have hgx := ((Touch.refl (MO g cu V) w5).drew.grown hgr (fun k hk _ => .inr (.inr hk))); have hb2 := Blk.touch HB5.out ((Touch.refl (fun k => V.ownBlock = some k) w5).drew.grown hgr (fun k hk _ => hk)) (own_ne HOv.out HB5.out (by decide)); have HB2 := Lib.hid hb2; have HG2 := Lib.hid hgr; have HO2 := Lib.hid ho2; have HX2 := Lib.hid hgx; have c2 := hb2.cell 2; have f2 := hb2.frozen 2; have l3 := hb2.lt; have hbm2 := Blk.touch HBM5.out ((Touch.refl (fun k => V.ownBlock = some k) w5).drew.grown hgr (fun k hk _ => hk)) (own_ne HOv.out HBM5.out (by decide)); have a0 := hbm2.cell 0; have l0 := hbm2.lt; simp [mCells] at c2 a0; have HBM2 := Lib.hid hbm2; clear ho2 hgr hloc hgx hb2 hbm2)
      all_goals
        have htv : Touch (fun k => V.ownBlock = some k) w5 w2 := (Touch.refl _ w5).drew.grown HG2.out (fun k hk _ => hk)
        have HTV := Lib.hid htv
        clear htv
        go_wp2_with fail
        go_meet
        refine ⟨_, Loc.app HLC.out (by simp; omega), HBM2.out.far (by intro h; have : w.heap.size = g := h; omega) _, ((Blk.touch HBF5.out HTV.out (own_ne HOv.out HBF5.out (by decide))).far (by intro h; have : w.heap.size + 1 = g := h; omega) _), ((Blk.touch HBR5.out HTV.out (own_ne HOv.out HBR5.out (by decide))).far (by intro h; have : w.heap.size + 1 + 1 = g := h; omega) _), HB2.out.set_ 2 _, own_far HO2.out HB2.out (by decide) 2 _, ((Blk.touch (w := w5) HU5.out HTV.out (own_ne HOv.out HU5.out (by decide))).far (fun h => hgu h.symm) _), (HT5.out.trans HX2.out).setCell (p := ⟨g, 2, none⟩) (fun _ => .inl rfl) _⟩
    case rest =>
    obtain ⟨v2, hlc, hbm, hbf, hbr, hb, ho, hu, ht⟩ := hcut
    have HLCd := Lib.hid hlc
    clear hlc
    obtain ⟨wd, rfl⟩ : ∃ wd : World, wd = wc := ⟨_, rfl⟩
    have hpart : u8s (sb (c1.part ++ F.data)) = PS ++ Lib.strCells d := by rw [sb_append, u8s_append, ← HPS.out, strCells_sb, HF.out]
    have hpsz : (c1.part ++ F.data).size = pn + d.size := by rw [ByteArray.size_append, ← HPN.out, HF.out]
    rw [← hpart, ← hpsz] at ho
    obtain ⟨A2, c2', rfl, _, _, hrd2, _, _⟩ := own_cases ho
    obtain ⟨Y, hY⟩ : ∃ Y, Y = c1.part ++ F.data := ⟨_, rfl⟩
    rw [← hY] at ho hrd2 hb hpsz HLCd
    have hYz : Y.size ≤ 1048576 := by omega
    clear hpsz
    have HBMd := Lib.hid hbm
    have HBFd := Lib.hid hbf
    have HBRd := Lib.hid hbr
    have HBd := Lib.hid hb
    have HOd := Lib.hid ho
    have HUd := Lib.hid hu
    have HTd := Lib.hid ht
    have HYY := Lib.hid hY
    have a0 := hbm.cell 0
    have b0 := hbf.cell 0
    have c1' := hb.cell 1
    have c2 := hb.cell 2
    have l0 := hbm.lt
    have l1 := hbf.lt
    have l2 := hbr.lt
    have l3 := hb.lt
    simp [mCells] at a0 b0 c1' c2
    have HRDd := Lib.hid hrd2
    clear hbm hbf hbr hb ho hu ht hpart hY hrd2 HBM5 HBF5 HBR5 HB5 HO5 HU5 HT5 HOv HPS
    cases fin with
    | false =>
      have hM2 : R = ({ c1 with u := c1.u, part := Y }, Ev.zero, false, 0) := by
        rw [HR.out, mgo_bin (by have := HNB.out; omega) HOP.out, if_pos (show F.fin = false by rw [HF.out]), ← HYY.out]
      have HR := Lib.hid hM2
      clear hM2
      go_wp2_with (refine wpList_store_row rfl 37 (.tmp 4) (.tmp 85) rfl (w.heap.size + 1 + 1) #[.int .i64 0, .int .i64 0, .string ⟨#[]⟩] rfl rfl 37 #[.int .i64 0, .int .i64 0, .string ⟨#[]⟩] HBRd.out ev_info rfl (ev_one _ _ _) ?_; rw [setRow_same HBRd.out])
      refine bodyPost_ret (v := .tuple #[.agg (evAgg Ev.zero), .bool false, .int .i64 0]) (data_results _ _ Ev.zero _ _ _ rfl rfl rfl HBRd.out) rfl ?_
      rw [HR.out]
      exact ⟨rfl, ⟨_, ⟨HBd.out, HOd.out, HUd.out⟩, HLCd.out⟩, HTd.out⟩
    | true =>
      have hM2 : R = ({ c1 with u := c1.u }.stop 0, ⟨c1.op, 0, Y⟩, true, 0) := by
        rw [HR.out, mgo_bin (by have := HNB.out; omega) HOP.out, if_neg (show ¬ F.fin = false by rw [HF.out]; simp), ← HYY.out]
      have HR := Lib.hid hM2
      have hcv : ∀ W, Touch NoS wd W → (convert 43 9 (.slice A2 Y.size c2')).run Tryz.prog W = .ok (.string Y) W := fun W hW => by
        have := conv_str W A2 (sb Y) Y.size c2' (sb_length Y) (HRDd.out.touch_no hW)
        rwa [sb_inj (sb_nums _ (sb_in Y))] at this
      have hcv1 := hcv wd.drew (Touch.refl _ _).drew
      have hcv2 := hcv (wd.alloc (.cells #[.int .i64 0, .int .i64 0, .string ⟨#[]⟩] 37)).drew ((Touch.refl _ _).alloc _).drew
      clear hM2 hcv
      go_wp2_with fail
      go_cut [8] (fun s8 wx => ∃ gx, s8 = .pointer (some ⟨gx, 0, none⟩) ∧ wd.heap.size ≤ gx ∧ Blk wx gx 37 (evAgg ⟨c1.op, 0, Y⟩) ∧ Touch NoS wd wx)
      case first =>
        go_region
        all_goals
          go_wp2_with fail
          go_meet
          exact ⟨wd.heap.size, rfl, Nat.le_refl _, Blk.drew (Blk.new wd _ _), ((Touch.refl _ _).alloc _).drew⟩
      case rest =>
      obtain ⟨gx, rfl, hgx, hbx, ht⟩ := hcut
      obtain ⟨we, rfl⟩ : ∃ we : World, we = wc := ⟨_, rfl⟩
      have HBXe := Lib.hid hbx
      have HBMe := Lib.hid (HBMd.out.touch ht (fun h => h))
      have HBRe := Lib.hid (HBRd.out.touch ht (fun h => h))
      have HBe := Lib.hid (HBd.out.touch ht (fun h => h))
      have HUe := Lib.hid (Blk.touch (w := wd) HUd.out ht (fun h => h))
      have HTe := Lib.hid (HTd.out.trans ht.of_no)
      have hne1 : gx ≠ g := by omega
      have hne2 : gx ≠ w.heap.size + 1 + 1 := by omega
      clear hbx ht hcv1 hcv2 a0 c1' c2 b0
      have a0 := HBMe.out.cell 0
      have l0 := HBMe.out.lt
      simp at a0
      go_wp2_with fail
      refine (m_stop g c1.most c1.op (.slice A2 Y.size c2') cu c1.over c1.err 0 _ HBe.out).mono ?_
      rintro e w9 ⟨rfl, hb9, ht9⟩
      have HB9 := Lib.hid hb9
      have HT9 := Lib.hid ht9
      have HBR9 := Lib.hid (Blk.touch HBRe.out ht9 hneg)
      have HBX9 := Lib.hid (Blk.touch HBXe.out ht9 hne1)
      have HU9 := Lib.hid (Blk.touch (w := we) HUe.out ht9 (fun h => hgu h.symm))
      have x0 := HBX9.out.cell 0
      have x1 := HBX9.out.cell 1
      have x2 := HBX9.out.cell 2
      have xl := HBX9.out.lt
      simp [evAgg] at x0 x1 x2
      clear hb9 ht9
      go_wp2_with (refine wpList_store_row rfl 37 (.tmp 4) (.tmp 98) rfl (w.heap.size + 1 + 1) #[.int .i64 c1.op, .int .i64 0, .string Y] rfl rfl 37 #[.int .i64 0, .int .i64 0, .string ⟨#[]⟩] HBR9.out ev_info rfl (ev_one _ _ _) ?_)
      have hbr : Blk (w9.setRow (w.heap.size + 1 + 1) #[.int .i64 c1.op, .int .i64 0, .string Y]) (w.heap.size + 1 + 1) 37 (evAgg ⟨c1.op, 0, Y⟩) := HBR9.out.row
      have hfar : ∀ k, k ≠ (w.heap.size + 1 + 1) → (w9.setRow (w.heap.size + 1 + 1) #[.int .i64 c1.op, .int .i64 0, .string Y]).heap[k]? = w9.heap[k]? := fun k hk => setRow_other w9 _ k _ hk
      refine bodyPost_ret (v := .tuple #[.agg (evAgg ⟨c1.op, 0, Y⟩), .bool true, .int .i64 0]) (data_results _ _ ⟨c1.op, 0, Y⟩ _ _ _ rfl rfl rfl hbr) rfl ?_
      rw [HR.out]
      refine ⟨rfl, ⟨.slice none 0 0, ⟨?_, own_nil _ _ _ _, ?_⟩, Loc.nil_ _ _⟩, ?_⟩
      · exact (hfar g (fun h => hneg h.symm)).trans HB9.out
      · exact (hfar cu (fun h => hneu h.symm)).trans HU9.out
      · exact (Touch.trans HTe.out (HT9.out.mono fun k hk => .inl hk)).row (by omega) _
end Go.Proofs.YtlnabpoohnphiaaGreat
