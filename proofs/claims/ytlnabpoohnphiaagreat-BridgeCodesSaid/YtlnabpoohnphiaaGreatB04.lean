/- Slices of rows of the program's own making, from whatever place on (Win): touched, cut, written, appended to. | ring: New, Len, Room; the law of copy by what it touches. | ring: Put. | leg: push. | rows of frames. -/
import Derived.Test.YtlnabpoohnphiaaGreatB03
import Derived.Test.YtlnabpoohnphiaaGreatB02
import Derived.ArgAppend
import Derived.Deep.RegionWith
import Derived.OwnWalk
/- Slices of rows of the program's own making, from whatever place on (Win): touched, cut, written, appended to. -/
namespace Go.Proofs.YtlnabpoohnphiaaGreat
open Go.RowKit
set_option linter.unusedSimpArgs false
set_option linter.unusedVariables false

def Win (w : World) (e : TypeId) (size : Nat) (v : Value) (n : Nat) (xs : List Value) : Prop :=
  xs.length = n * size ∧ ((v = .slice none 0 0 ∧ n = 0) ∨ ∃ g off c cs, v = .slice (some ⟨g, off, none⟩) n c ∧ Blk w g e cs ∧ n ≤ c ∧ c ≤ maxLen ∧ off + c * size ≤ cs.size ∧ (cs.toList.drop off).take (n * size) = xs)
section
variable {S : Nat → Prop} {w w' : World} {base : Nat} {e : TypeId} {size n : Nat} {v : Value} {xs : List Value}
theorem Win.of_own (h : w.ownsRow base e size v n xs) : Win w e size v n xs := by
  refine ⟨h.1, ?_⟩
  rcases h.2 with hn | ⟨g, cap, cur, rfl, hb, hg, hc, hm, hs, ht⟩
  · exact .inl hn
  · refine .inr ⟨g, 0, cap, cur, rfl, hg, hc, hm, by omega, ?_⟩
    rw [List.drop_zero]
    exact ht
theorem Win.nil_ (w : World) (e : TypeId) (size : Nat) : Win w e size (.slice none 0 0) 0 [] := ⟨by simp, .inl ⟨rfl, rfl⟩⟩
theorem Win.touch (h : Win w e size v n xs) (k : Touch S w w') (hS : ∀ b, v.ownBlock = some b → ¬ S b) : Win w' e size v n xs := by
  refine ⟨h.1, ?_⟩
  rcases h.2 with hn | ⟨g, off, c, cs, rfl, hb, r⟩
  · exact .inl hn
  · exact .inr ⟨g, off, c, cs, rfl, hb.touch k (hS g rfl), r⟩
theorem Win.no (h : Win w e size v n xs) (k : Touch NoS w w') : Win w' e size v n xs := h.touch k fun _ _ h => h
theorem Win.type (h : Win w e size v n xs) {b : Nat} (hv : v.ownBlock = some b) : ∃ cs, Blk w b e cs := by
  rcases h.2 with ⟨rfl, _⟩ | ⟨g, off, c, cs, rfl, hb, _⟩
  · cases hv
  · injection hv with hv
    subst hv
    exact ⟨cs, hb⟩
theorem Win.cases (h : Win w e size v n xs) : ∃ A c, v = .slice A n c ∧ n ≤ c ∧ c ≤ maxLen ∧ Rd w A xs ∧ (∀ a, A = some a → a.spot = none ∧ a.block < w.heap.size) ∧ (A = none → n = 0 ∧ c = 0) := by
  rcases h.2 with ⟨rfl, rfl⟩ | ⟨g, off, c, cs, rfl, hb, h1, h2, h3, h4⟩
  · have hx : xs = [] := List.eq_nil_of_length_eq_zero (by rw [h.1]; simp)
    subst hx
    exact ⟨none, 0, rfl, Nat.le_refl _, by simp [maxLen], fun h => absurd rfl h, (fun a ha => by cases ha), fun _ => ⟨rfl, rfl⟩⟩
  · refine ⟨_, c, rfl, h1, h2, fun _ => ⟨g, off, rfl, hb.lt, fun j u hu => ?_⟩, fun a ha => by injection ha with ha; subst ha; exact ⟨rfl, hb.lt⟩, fun h => by cases h⟩
    rw [hb.cell]
    rw [← h4, List.getElem?_take] at hu
    split at hu
    · rw [List.getElem?_drop] at hu
      simpa using hu
    · cases hu
/-- Without its first ones. -/
theorem Win.cut {g off c : Nat} (h : Win w e size (.slice (some ⟨g, off, none⟩) n c) n xs) (k : Nat) (hk : k ≤ n) : Win w e size (.slice (if c = k then some ⟨g, off, none⟩ else some ⟨g, off + k * size, none⟩) (n - k) (c - k)) (n - k) (xs.drop (k * size)) := by
  refine ⟨by rw [List.length_drop, h.1, Nat.sub_mul], .inr ?_⟩
  rcases h.2 with ⟨hv, _⟩ | ⟨g', off', c', cs, hv, hb, h1, h2, h3, h4⟩
  · cases hv
  · injection hv with e1 _ e3
    injection e1 with e1
    injection e1 with e1 e2
    subst e1 e2 e3
    by_cases hck : c = k
    · have hnk : n = k := by omega
      subst hck
      refine ⟨g, off, 0, cs, by rw [if_pos rfl, Nat.sub_self], hb, by omega, by omega, by omega, ?_⟩
      rw [hnk, Nat.sub_self, Nat.zero_mul, List.take_zero, List.drop_eq_nil_of_le]
      rw [h.1, hnk]
      exact Nat.le_refl _
    · refine ⟨g, off + k * size, c - k, cs, by rw [if_neg hck], hb, by omega, by omega, ?_, ?_⟩
      · have : k * size + (c - k) * size = c * size := by rw [← Nat.add_mul]; congr 1; omega
        omega
      · rw [← h4, ← List.drop_drop, List.drop_take, ← Nat.sub_mul]
end
theorem splice_cons {L : List Value} {o : Nat} (v : Value) (vs : List Value) (h : o + (v :: vs).length ≤ L.length) : splice (L.set o v) (o + 1) vs = splice L o (v :: vs) := by
  have hl : o + 1 + vs.length ≤ (L.set o v).length := by simp at h ⊢; omega
  apply List.ext_getElem?
  intro i
  rw [splice_get _ _ _ hl, splice_get _ _ _ h]
  simp only [List.length_cons] at h ⊢
  by_cases h1 : i < o
  · rw [if_pos (by omega), if_pos h1, List.getElem?_set_ne (by omega)]
  · rw [if_neg h1]
    by_cases h2 : i = o
    · subst h2
      rw [if_pos (by omega), if_pos (by omega), List.getElem?_set_self (by omega)]
      simp
    · rw [if_neg (by omega)]
      by_cases h3 : i < o + 1 + vs.length
      · rw [if_pos h3, if_pos (by omega), show i - o = (i - (o + 1)) + 1 from by omega, List.getElem?_cons_succ]
      · rw [if_neg h3, if_neg (by omega), List.getElem?_set_ne (by omega)]
theorem Blk.sets {b : Nat} {e : TypeId} : ∀ (vs : List Value) (o : Nat) (w : World) (cs : Array Value), Blk w b e cs → o + vs.length ≤ cs.size → ∃ cs', Blk (w.setCells b o vs) b e cs' ∧ cs'.toList = splice cs.toList o vs ∧ Touch (At b) w (w.setCells b o vs) := by
  intro vs
  induction vs with
  | nil =>
    intro o w cs h ho
    exact ⟨cs, h, by simp [splice], Touch.refl _ _⟩
  | cons v vs ih =>
    intro o w cs h ho
    obtain ⟨cs', h1, h2, h3⟩ := ih (o + 1) (w.setCell ⟨b, o, none⟩ v) _ (h.set_ o v) (by simp at ho ⊢; omega)
    refine ⟨cs', h1, ?_, ((Touch.refl (At b) w).setAt o v).trans h3⟩
    rw [h2, Array.toList_setIfInBounds]
    exact splice_cons v vs (by simpa using ho)
theorem run_app_win {P : Program} (w : World) (t ty e : TypeId) (i : TypeInfo) (z : Value) (size bytes : Nat) (ht : P.underlying t = some (.slice e)) (hi : P.info? e = some i) (hz : i.zero = some z)
    (hsize : i.size = size) (hby : i.bytes = bytes) (hzs : z.cells.size = size) (hsz : 0 < size)
    (v : Value) (n : Nat) (xs : List Value) (hw : Win w e size v n xs)
    (ad : Addr) (m c : Nat) (news : List Value) (hl : news.length = m * size) (hnews : ∀ j u, news[j]? = some u → w.cell? (ad.add j) = some u) (h1 : ∀ u ∈ news, u.oneCell' = true)
    (h63 : n + m ≤ maxLen) (hbytes : (n + m) * bytes ≤ 140737488355328) :
    ∃ v' w', (Builtin.append_ #[t, t] ty #[v, .slice (some ad) m c]).run P w = .ok v' w' ∧ Win w' e size v' (n + m) (xs ++ news) ∧ Touch (fun k => v.ownBlock = some k) w w' ∧ Loc w v v' := by
  rcases hw.2 with ⟨rfl, rfl⟩ | ⟨g, off, cap, cs, rfl, hb, hn, hm, hs, hx⟩
  · obtain rfl : xs = [] := List.eq_nil_of_length_eq_zero (by rw [hw.1]; simp)
    obtain ⟨v', w', hrun, h2, h3, h4, h5⟩ := run_append_own_at (P := P) w w.heap.size t ty e i z size bytes ht hi hz hsize hby hzs hsz (.slice none 0 0) 0 [] (own_nil _ _ _ _) ad m c news hl hnews h1 h63 hbytes (Nat.le_refl _)
    exact ⟨v', w', hrun, Win.of_own h2, (Touch.refl _ _).grown h3 (fun k hk _ => by cases hk), Loc.app h5 (Nat.le_refl _)⟩
  · by_cases hr : n + m ≤ cap
    · subst hsize
      have hle : off + n * i.size + news.length ≤ cs.size := by
        rw [hl]
        have := Nat.mul_le_mul_right i.size hr
        rw [Nat.add_mul] at this
        omega
      have hrun := run_append_room_cells (P := P) w t ty e i ht hi g off n cap ad m c news hl hnews h1 hr (fun j hj => by rw [hb.cell]; simp; omega) (fun j hj => hb.frozen _)
      obtain ⟨cs', q1, q2, q3⟩ := Blk.sets news (off + n * i.size) w cs hb hle
      refine ⟨_, _, hrun, ⟨by rw [List.length_append, hw.1, hl, Nat.add_mul], .inr ⟨g, off, cap, cs', rfl, q1, hr, hm, ?_, ?_⟩⟩, q3.mono (fun k hk => by rw [hk]; rfl), Loc.refl _ _⟩
      · have : cs'.toList.length = cs.toList.length := by rw [q2, length_splice _ _ _ (by simpa using hle)]
        simp at this
        omega
      · rw [q2]
        apply List.ext_getElem?
        intro j
        have hxl := hw.1
        rw [List.getElem?_take, List.getElem?_drop, splice_get _ _ _ (by simpa using hle), List.getElem?_append, hxl, hl, Nat.add_mul]
        by_cases hj : j < n * i.size
        · rw [if_pos (by omega), if_pos (by omega), if_pos hj, ← hx, List.getElem?_take, if_pos hj, List.getElem?_drop]
        · rw [if_neg hj]
          by_cases hj2 : j < n * i.size + m * i.size
          · rw [if_pos hj2, if_neg (by omega), if_pos (by omega)]
            congr 1
            omega
          · rw [if_neg hj2, List.getElem?_eq_none (by omega)]
    · obtain ⟨v', w', hrun, r1, r2⟩ := run_append_arg_grows (P := P) w t ty e i z size bytes ht hi hz hsize hby hzs hsz ⟨g, off, none⟩ n cap xs hw.1 (fun j u hu => by
        rw [add_plain, hb.cell]
        rw [← hx, List.getElem?_take] at hu
        split at hu
        · rw [List.getElem?_drop] at hu
          simpa using hu
        · cases hu) ad m c news hl hnews (by omega) h63 hbytes
      exact ⟨v', w', hrun, Win.of_own r1, (Touch.refl _ _).grown r2 (fun k hk _ => by cases hk), fun b hb => .inr (own_base r1 hb)⟩
theorem wpList_app_win {P : Program} (w : World) {ops : Array Oper} {rest : List Oper} {o : Oper} {a : Act} {Q : Exit → Act → World → Prop} (hgd : o.guard = none) (s x : Operand) (t : TypeId)
    (ho : o.op = .call { callee := .builtin .append, args := #[s, x], argTypes := #[t, t] })
    (e : TypeId) (i : TypeInfo) (z : Value) (size bytes : Nat) (ht : P.underlying t = some (.slice e)) (hi : P.info? e = some i) (hz : i.zero = some z)
    (hsize : i.size = size) (hby : i.bytes = bytes) (hzs : z.cells.size = size) (hsz : 0 < size)
    (v : Value) (n : Nat) (xs : List Value) (hs : a.eval s = v) (hw : Win w e size v n xs)
    (ad : Addr) (m c : Nat) (news : List Value) (hx : a.eval x = .slice (some ad) m c) (hl : news.length = m * size) (hnews : ∀ j u, news[j]? = some u → w.cell? (ad.add j) = some u) (h1 : ∀ u ∈ news, u.oneCell' = true)
    (h63 : n + m ≤ maxLen) (hbytes : (n + m) * bytes ≤ 140737488355328)
    (h : ∀ v' w', Win w' e size v' (n + m) (xs ++ news) → Touch (fun k => v.ownBlock = some k) w w' → Loc w v v' → wpList P ops Q rest (a.put o.dst v') w') : wpList P ops Q (o :: rest) a w := by
  refine wpList_plain hgd fun _ hK => ?_
  obtain ⟨v', w', hrun, h2, h3, h4⟩ := run_app_win (P := P) w t o.type e i z size bytes ht hi hz hsize hby hzs hsz v n xs hw ad m c news hl hnews h1 h63 hbytes
  unfold Oper.wp execOp
  simp only [ho, resolve, invoke, builtin, Sem.run_bind, Sem.run_pure, Result.andThen_ok, List.map_toArray, List.map_cons, List.map_nil, hs, hx, hrun]
  exact hK _ _ (h v' w' h2 h3 h4)
theorem step_app_win {P : Program} (w : World) {ops : Array Oper} {o : Oper} {a : Act} {K : Act → World → Prop} {Q : Exit → Act → World → Prop} {E : Prop} (hgd : o.guard = none) (s x : Operand) (t : TypeId)
    (ho : o.op = .call { callee := .builtin .append, args := #[s, x], argTypes := #[t, t] })
    (e : TypeId) (i : TypeInfo) (z : Value) (size bytes : Nat) (ht : P.underlying t = some (.slice e)) (hi : P.info? e = some i) (hz : i.zero = some z)
    (hsize : i.size = size) (hby : i.bytes = bytes) (hzs : z.cells.size = size) (hsz : 0 < size)
    (v : Value) (n : Nat) (xs : List Value) (hs : a.eval s = v) (hw : Win w e size v n xs)
    (ad : Addr) (m c : Nat) (news : List Value) (hx : a.eval x = .slice (some ad) m c) (hl : news.length = m * size) (hnews : ∀ j u, news[j]? = some u → w.cell? (ad.add j) = some u) (h1 : ∀ u ∈ news, u.oneCell' = true)
    (h63 : n + m ≤ maxLen) (hbytes : (n + m) * bytes ≤ 140737488355328)
    (h : ∀ v' w', Win w' e size v' (n + m) (xs ++ news) → Touch (fun k => v.ownBlock = some k) w w' → Loc w v v' → K (a.put o.dst v') w') :
    if Region.wanted o (yielded ops a.tmps) = true then Oper.wp P o a w K Q else E := by
  have hw2 : Region.wanted o (yielded ops a.tmps) = true := by simp [Region.wanted, hgd]
  rw [if_pos hw2]
  obtain ⟨v', w', hrun, h2, h3, h4⟩ := run_app_win (P := P) w t o.type e i z size bytes ht hi hz hsize hby hzs hsz v n xs hw ad m c news hl hnews h1 h63 hbytes
  unfold Oper.wp execOp
  simp only [ho, resolve, invoke, builtin, Sem.run_bind, Sem.run_pure, Result.andThen_ok, List.map_toArray, List.map_cons, List.map_nil, hs, hx, hrun]
  exact h v' w' h2 h3 h4
end Go.Proofs.YtlnabpoohnphiaaGreat
/- ring: New, Len, Room; the law of copy by what it touches. -/
namespace Go.Proofs.YtlnabpoohnphiaaGreat
open Go.RowKit
set_option linter.unusedSimpArgs false
set_option linter.unusedVariables false

def rgCells (b M : Nat) (s : Nat) (size : Nat) : Array Value := #[.slice (some ⟨b, 0, none⟩) M M, .int .i64 s, .int .i64 size]
/-- A ring: itself, its bytes' block, what it holds. -/
def IsR (w : World) (g b M : Nat) (l : List Int) : Prop :=
  ∃ (s : Nat) (buf : List Int), Blk w g 145 (rgCells b M s l.length) ∧ Blk w b 5 (u8s buf).toArray ∧ buf.length = M ∧ bytesIn buf ∧ s < M ∧ M ≤ 65536 ∧ l.length ≤ M ∧ rc buf s l.length = l
def RO (g b : Nat) (k : Nat) : Prop := k = g ∨ k = b
section
variable {w w' : World} {g b M : Nat} {l : List Int}
theorem IsR.touch {S : Nat → Prop} (h : IsR w g b M l) (k : Touch S w w') (h1 : ¬ S g) (h2 : ¬ S b) : IsR w' g b M l := by
  obtain ⟨s, buf, hb, hr, h⟩ := h
  exact ⟨s, buf, hb.touch k h1, hr.touch k h2, h⟩
theorem IsR.no (h : IsR w g b M l) (k : Touch NoS w w') : IsR w' g b M l := h.touch k (fun h => h) (fun h => h)
theorem IsR.le (h : IsR w g b M l) : l.length ≤ M ∧ M ≤ 65536 ∧ 0 < M := by
  obtain ⟨s, buf, _, _, _, _, h1, h2, h3, _⟩ := h
  exact ⟨h3, h2, by omega⟩
theorem IsR.bytes (h : IsR w g b M l) : bytesIn l := by
  obtain ⟨s, buf, _, _, hM, hin, h1, h2, h3, h4⟩ := h
  rw [← h4]
  intro x hx
  unfold rc at hx
  obtain ⟨i, hi, rfl⟩ := List.mem_map.1 hx
  have hi := List.mem_range.1 hi
  have hw : wrp buf.length (s + i) < buf.length := by rw [hM]; exact wrp_lt (by omega) (by omega)
  simp only [List.getD, List.getElem?_eq_getElem hw, Option.getD_some]
  exact hin _ (List.getElem_mem hw)
theorem IsR.lt (h : IsR w g b M l) : g < w.heap.size ∧ b < w.heap.size := by
  obtain ⟨s, buf, hb, hr, _⟩ := h
  exact ⟨hb.lt, hr.lt⟩
theorem IsR.blk (h : IsR w g b M l) : ∃ cs ds, Blk w g 145 cs ∧ Blk w b 5 ds := by
  obtain ⟨s, buf, hb, hr, _⟩ := h
  exact ⟨_, _, hb, hr⟩
end

theorem u8_info1r : (Tryz.prog.info? 5).map (·.size) = some 1 := by kernel_rfl
theorem Rd.nil_ (w : World) (A : Option Addr) : Rd w A [] := fun h => absurd rfl h
theorem rd_take {w : World} {A : Option Addr} {xs : List Value} (h : Rd w A xs) (n : Nat) : Rd w A (xs.take n) := fun hx => by
  obtain ⟨g, off, e1, e2, e3⟩ := h (by rintro rfl; simp at hx)
  refine ⟨g, off, e1, e2, fun j u hu => e3 j u ?_⟩
  rw [List.getElem?_take] at hu
  split at hu
  · exact hu
  · cases hu
theorem rd_drop {w : World} {g off : Nat} {xs : List Value} (h : Rd w (some ⟨g, off, none⟩) xs) (n : Nat) : Rd w (some ⟨g, off + n, none⟩) (xs.drop n) := fun hx => by
  obtain ⟨g2, o2, e1, e2, e3⟩ := h (by rintro rfl; simp at hx)
  injection e1 with e1
  injection e1 with e1 e4
  subst e1 e4
  refine ⟨g, off + n, rfl, e2, fun j u hu => ?_⟩
  rw [List.getElem?_drop] at hu
  rw [Nat.add_assoc]
  exact e3 _ u hu
theorem rd_at {S : Nat → Prop} {w w' : World} {g off : Nat} {xs : List Value} (h : Rd w (some ⟨g, off, none⟩) xs) (k : Touch S w w') (hS : ¬ S g) : Rd w' (some ⟨g, off, none⟩) xs := fun hx => by
  obtain ⟨g2, o2, e1, e2, e3⟩ := h hx
  injection e1 with e1
  injection e1 with e1 e4
  subst e1 e4
  refine ⟨g, off, rfl, Nat.lt_of_lt_of_le e2 k.size, fun j u hu => ?_⟩
  exact (World.cell?_of_block (k.block g e2 hS)).trans (e3 j u hu)
theorem touch_setRow {g : Nat} (w : World) (cs : Array Value) : Touch (At g) w (w.setRow g cs) :=
  ⟨rfl, rfl, rfl, by simp [World.setRow], fun k hk hn => setRow_other w g k cs (fun h => hn h)⟩
theorem wpList_copy_at {P : Program} {w : World} {ops : Array Oper} {rest : List Oper} {o : Oper} {a : Act} {Q : Exit → Act → World → Prop} (hgd : o.guard = none) (d s : Operand) (dT sT : TypeId)
    (ho : o.op = .call { callee := .builtin .copy, args := #[d, s], argTypes := #[dT, sT] }) (elem : TypeId) (hu : P.underlying dT = some (.slice elem)) (hsz : (P.info? elem).map (·.size) = some 1)
    (dp sp : Option Addr) (dLen dCap sLen sCap : Nat) (hd : a.eval d = .slice dp dLen dCap) (hs : a.eval s = .slice sp sLen sCap)
    (g off : Nat) (cur : List Value) (t : TypeId) (hg : Blk w g t cur.toArray) (cs : List Value) (hn : cs.length = Nat.min sLen dLen)
    (hpos : 0 < cs.length → dp = some ⟨g, off, none⟩) (hrd : Rd w sp cs)
    (hfit : off + cs.length ≤ cur.length) (h1 : ∀ v ∈ cs, v.oneCell' = true)
    (h : ∀ w', Blk w' g t (splice cur off cs).toArray → Touch (At g) w w' → wpList P ops Q rest (a.put o.dst (goInt cs.length)) w') :
    wpList P ops Q (o :: rest) a w := by
  by_cases h0 : cs.length = 0
  · obtain rfl : cs = [] := List.eq_nil_of_length_eq_zero h0
    refine wpList_copy_nothing hgd d s dT sT ho elem hu hsz dp sp dLen dCap sLen sCap hd hs (by simpa using hn.symm) ?_
    exact h w (by simpa [splice] using hg) (Touch.refl _ _)
  · obtain rfl := hpos (by omega)
    obtain ⟨g2, o2, rfl, _, hc⟩ := hrd (by rintro rfl; simp at h0)
    refine wpList_copy_own hgd d s dT sT ho elem hu hsz g off dLen dCap ⟨g2, o2, none⟩ sLen sCap hd hs cur.toArray t hg cs hn (fun j v hv => by rw [add_plain]; exact hc j v hv) (by simpa using hfit) h1 ?_
    exact h _ (by unfold Blk; simpa [splice] using setRow_heap w g _ _ t _ hg) (touch_setRow w _)
theorem step_copy_at {P : Program} {ops : Array Oper} {o : Oper} {a : Act} {w : World} {K : Act → World → Prop} {Q : Exit → Act → World → Prop} {E : Prop} (hgd : o.guard = none) (d s : Operand) (dT sT : TypeId)
    (ho : o.op = .call { callee := .builtin .copy, args := #[d, s], argTypes := #[dT, sT] }) (elem : TypeId) (hu : P.underlying dT = some (.slice elem)) (hsz : (P.info? elem).map (·.size) = some 1)
    (dp sp : Option Addr) (dLen dCap sLen sCap : Nat) (hd : a.eval d = .slice dp dLen dCap) (hs : a.eval s = .slice sp sLen sCap)
    (g off : Nat) (cur : List Value) (t : TypeId) (hg : Blk w g t cur.toArray) (cs : List Value) (hn : cs.length = Nat.min sLen dLen)
    (hpos : 0 < cs.length → dp = some ⟨g, off, none⟩) (hrd : Rd w sp cs)
    (hfit : off + cs.length ≤ cur.length) (h1 : ∀ v ∈ cs, v.oneCell' = true)
    (h : ∀ w', Blk w' g t (splice cur off cs).toArray → Touch (At g) w w' → K (a.put o.dst (goInt cs.length)) w') :
    if Region.wanted o (yielded ops a.tmps) = true then Oper.wp P o a w K Q else E := by
  have hw : Region.wanted o (yielded ops a.tmps) = true := by simp [Region.wanted, hgd]
  rw [if_pos hw]
  by_cases h0 : cs.length = 0
  · obtain rfl : cs = [] := List.eq_nil_of_length_eq_zero h0
    have hrun := run_copy_none (P := P) w dT sT o.type elem dp sp dLen dCap sLen sCap hu hsz (by simpa using hn.symm)
    unfold Oper.wp
    simp [execOp, ho, resolve, invoke, builtin, hd, hs, hrun, Result.andThen]
    exact h w (by simpa [splice] using hg) (Touch.refl _ _)
  · obtain rfl := hpos (by omega)
    obtain ⟨g2, o2, rfl, _, hc⟩ := hrd (by rintro rfl; simp at h0)
    have hrun := run_copy_row (P := P) w dT sT o.type elem g off dLen dCap ⟨g2, o2, none⟩ sLen sCap cur.toArray t cs hu hsz hg hn (fun j v hv => by rw [add_plain]; exact hc j v hv) (by simpa using hfit) h1
    unfold Oper.wp
    simp [execOp, ho, resolve, invoke, builtin, hd, hs, hrun, Result.andThen]
    exact h _ (by unfold Blk; simpa [splice] using setRow_heap w g _ _ t _ hg) (touch_setRow w _)

set_option maxHeartbeats 1600000 in
set_option maxRecDepth 100000 in
theorem rg_new (most : Int) (h1 : 1 ≤ most) (h2 : most ≤ 65536) (w : World) : Calls Tryz.prog 56 #[.int .i64 most] w fun e w' =>
    ∃ g b, e = .returned (.tuple #[.pointer (some ⟨g, 0, none⟩), .int .i64 0]) ∧ w.heap.size ≤ g ∧ w.heap.size ≤ b ∧ IsR w' g b most.toNat [] ∧ Touch NoS w w' := by
  obtain ⟨M, rfl⟩ : ∃ M : Nat, most = (M : Int) := ⟨most.toNat, by omega⟩
  have hmk := make_u8 w M (by omega)
  go_enter Tryz.func56, Tryz.ntmps56
  go_wp2_with fail
  go_ret2
  refine ⟨w.heap.size + 1, w.heap.size, rfl, by omega, Nat.le_refl _, ⟨0, List.replicate M 0, ?_, ?_, ?_, ?_, by omega, by omega, Nat.zero_le _, rfl⟩, ((Touch.refl _ _).alloc _).alloc _⟩
  · have := Blk.new (w.alloc (Obj.cells (List.replicate M (Value.int IntKind.u8 0)).toArray 5)) 145 (rgCells w.heap.size M 0 0)
    simpa [rgCells] using this
  · have := (Blk.new w 5 (List.replicate M (Value.int IntKind.u8 0)).toArray).alloc (Obj.cells (rgCells w.heap.size M 0 0) 145)
    simpa [rgCells, u8s] using this
  · simp
  · intro x hx
    have := List.eq_of_mem_replicate hx
    omega
theorem rg_len (g b M s k : Nat) (w : World) (hb : Blk w g 145 (rgCells b M s k)) : Calls Tryz.prog 94 #[.pointer (some ⟨g, 0, none⟩)] w fun e w' => e = .returned (.int .i64 k) ∧ w = w' := by
  have c2 := hb.cell 2
  simp [rgCells] at c2
  go_enter Tryz.func94, Tryz.ntmps94
  go_wp2
  go_ret
  exact ⟨rfl, rfl⟩
theorem rg_room (g b M s k : Nat) (hM : M ≤ 65536) (hk : k ≤ M) (w : World) (hb : Blk w g 145 (rgCells b M s k)) : Calls Tryz.prog 131 #[.pointer (some ⟨g, 0, none⟩)] w fun e w' => e = .returned (.int .i64 ((M : Int) - k)) ∧ Touch NoS w w' := by
  have c0 := hb.cell 0
  have c2 := hb.cell 2
  simp [rgCells] at c0 c2
  have glt := hb.lt
  clear hb
  go_enter Tryz.func131, Tryz.ntmps131
  go_wp2_with fail
  go_quiet (fail)
  go_wp2
  go_ret
  exact ⟨rfl, (Touch.refl _ _).drewN _⟩
end Go.Proofs.YtlnabpoohnphiaaGreat
/- ring: Put. -/
namespace Go.Proofs.YtlnabpoohnphiaaGreat
open Go.RowKit
set_option linter.unusedSimpArgs false
set_option linter.unusedVariables false

set_option maxHeartbeats 3200000 in
set_option maxRecDepth 100000 in
theorem rg_put (g b M : Nat) (l bs : List Int) (hin : bytesIn bs) (A : Option Addr) (n cap : Nat) (hn : bs.length = n) (hnc : n ≤ cap) (hcm : cap ≤ maxLen) (w : World) (h : IsR w g b M l) (hr : Rd w A (u8s bs)) (hA : ∀ a, A = some a → a.block ≠ b) :
    Calls Tryz.prog 109 #[.pointer (some ⟨g, 0, none⟩), .slice A n cap] w fun e w' => e = .returned (.int .i64 (min n (M - l.length) : Nat)) ∧ IsR w' g b M (l ++ bs.take (M - l.length)) ∧ Touch (RO g b) w w' := by
  obtain ⟨s, buf, hb, hrow, hM, hbin, hs, hMm, hl, hrc⟩ := h
  obtain ⟨K, hK⟩ : ∃ K, K = l.length := ⟨_, rfl⟩
  rw [← hK] at hb hl hrc ⊢
  have HKK := Lib.hid hK
  obtain ⟨k, hk⟩ : ∃ k, k = min n (M - K) := ⟨_, rfl⟩
  rw [← hk]
  have hmn : min (n : Int) ((M : Int) - K) = (k : Int) := by omega
  have HKM := Lib.hid hk
  have hkn : k ≤ n := by omega
  obtain ⟨bt, hbt⟩ : ∃ bt, bt = bs.take (M - K) := ⟨_, rfl⟩
  rw [← hbt]
  have hbtl : bt.length = k := by rw [hbt, List.length_take]; omega
  have HBTR : Hid (Rd w A (u8s bt)) := by
    show Rd w A (u8s bt)
    intro hx
    obtain ⟨g2, o2, e1, e2, e3⟩ := hr (by rintro e; apply hx; have := congrArg List.length e; simp [u8s] at this; rw [hbt, this]; simp [u8s])
    refine ⟨g2, o2, e1, e2, fun j u hu => e3 j u ?_⟩
    rw [hbt] at hu
    simp only [u8s, List.map_take, List.getElem?_take] at hu
    split at hu
    · exact hu
    · cases hu
  have HBTI : Hid (bytesIn bt) := by show bytesIn bt; rw [hbt]; exact hin.take _
  obtain ⟨E, hE⟩ : ∃ E, E = wrp M (s + K) := ⟨_, rfl⟩
  have HEE := Lib.hid hE
  have hEM : E < M := by rw [hE]; exact wrp_lt (by omega) (by omega)
  have hmod : ((s : Int) + K).tmod M = (E : Int) := by
    rw [hE, ← wrp_mod (by omega) (by omega)]
    exact (Int.ofNat_tmod (s + K) M).symm
  have HRC := Lib.hid hrc
  obtain ⟨n1, hn1⟩ : ∃ n1, n1 = min k (M - E) := ⟨_, rfl⟩
  have hn1k : n1 ≤ k := by omega
  have hn1M : E + n1 ≤ M := by omega
  have HN1 := Lib.hid hn1
  have HBTL := Lib.hid hbtl
  have HMM := Lib.hid hM
  obtain ⟨C1, hC1⟩ : ∃ C1, C1 = u8s (bt.take n1) := ⟨_, rfl⟩
  have HC1 := Lib.hid hC1
  have HC1L : Hid (C1.length = n1) := by show C1.length = n1; rw [hC1, u8s_length, List.length_take, hbtl]; omega
  obtain ⟨C2, hC2⟩ : ∃ C2, C2 = u8s (bt.drop n1) := ⟨_, rfl⟩
  have HC2 := Lib.hid hC2
  have HC2L : Hid (C2.length = k - n1) := by show C2.length = k - n1; rw [hC2, u8s_length, List.length_drop, hbtl]
  clear hn1 hC1 hC2 hbtl hbt hM
  have c0 := hb.cell 0
  have c1 := hb.cell 1
  have c2 := hb.cell 2
  have f2 := hb.frozen 2
  have glt := hb.lt
  simp [rgCells] at c0 c1 c2
  clear hK hk hE hrc
  have HRM := Lib.hid (rg_room g b M s K hMm hl w hb)
  have HB := Lib.hid hb
  have HROW := Lib.hid hrow
  have HR := Lib.hid hr
  clear hb hrow hr
  go_enter Tryz.func109, Tryz.ntmps109
  go_wp2_with fail
  refine HRM.out.mono ?_
  rintro e w1 ⟨rfl, ht⟩
  have c0 := HB.out.touch ht (fun h => h) |>.cell 0
  have c1 := HB.out.touch ht (fun h => h) |>.cell 1
  have c2 := HB.out.touch ht (fun h => h) |>.cell 2
  have f2 := HB.out.touch ht (fun h => h) |>.frozen 2
  have glt := (HB.out.touch ht (fun h => h)).lt
  simp [rgCells] at c0 c1 c2
  go_wp2_with fail
  go_quiet (fail)
  have HRD1 : Hid (Rd (w1.drewN nq) A C1) := by
    show Rd (w1.drewN nq) A C1
    rw [HC1.out]
    have := rd_take (HBTR.out.touch_no (ht.drewN nq)) n1
    simpa [u8s] using this
  have HROW1 : Hid (Blk (w1.drewN nq) b 5 (u8s buf).toArray) := (HROW.out.touch ht (fun h => h)).drewN nq
  go_wp2_with (with_reducible refine wpList_copy_at (o := ⟨some 38, _, _, _, _, _⟩) rfl (.tmp 36) (.tmp 37) 43 43 rfl 5 Tryz.underlying43 u8_info1r (some ⟨b, E, none⟩) A (M - E) (M - E) k n (by simp [Act.eval, Act.put]) (by simp [Act.eval, Act.put]) b E (u8s buf) 5 HROW1.out C1 (by rw [HC1L.out]; exact HN1.out) (fun _ => rfl) HRD1.out (by rw [HC1L.out, u8s_length, HMM.out]; exact hn1M) (by rw [HC1.out]; exact u8s_one _) ?_; intro w2 hrow2 ht2)
  have htt : Touch (At b) w w2 := (ht.drewN nq).of_no.trans ht2
  have hbg : g ≠ b := HB.out.ne_ HROW.out (by decide)
  have hb2 : Blk w2 g 145 (rgCells b M s K) := HB.out.touch htt (fun h => hbg h)
  have c0 := hb2.cell 0
  have c1 := hb2.cell 1
  have c2 := hb2.cell 2
  have f2 := hb2.frozen 2
  have glt := hb2.lt
  simp [rgCells] at c0 c1 c2
  rw [HC1L.out]
  go_wp2_with fail
  have HBUF : Hid ((splice (u8s buf) E C1).length = M) := by show (splice (u8s buf) E C1).length = M; rw [length_splice _ _ _ (by rw [HC1L.out, u8s_length, HMM.out]; exact hn1M), u8s_length, HMM.out]
  have HROW2 := Lib.hid hrow2
  have HT2 := Lib.hid htt
  clear hrow2 htt ht2 HROW1 HRD1 ht HRM
  have HFIN : Hid (∀ w3, Blk w3 b 5 (splice (splice (u8s buf) E C1) 0 C2).toArray → Touch (At b) w w3 → Blk w3 g 145 (rgCells b M s K) → IsR (w3.setCell ⟨g, 2, none⟩ (.int .i64 ((K : Int) + k))) g b M (l ++ bt) ∧ Touch (RO g b) w (w3.setCell ⟨g, 2, none⟩ (.int .i64 ((K : Int) + k)))) := by
    show ∀ w3, _
    intro w3 hrow3 ht3 hb3
    rw [HC1.out, HC2.out, u8s_splice, u8s_splice] at hrow3
    have hlen : (l ++ bt).length = K + k := by rw [List.length_append, ← HKK.out, HBTL.out]
    have hM := HMM.out
    have hkl := HKM.out
    have hf1 : E + (bt.take n1).length ≤ buf.length := by rw [List.length_take, HBTL.out, hM]; omega
    have hl1 : (splice buf E (bt.take n1)).length = M := by rw [length_splice _ _ _ hf1, hM]
    have hf2 : 0 + (bt.drop n1).length ≤ (splice buf E (bt.take n1)).length := by rw [hl1, List.length_drop, HBTL.out]; omega
    refine ⟨⟨s, splice (splice buf E (bt.take n1)) 0 (bt.drop n1), ?_, ?_, ?_, ?_, hs, hMm, by rw [hlen]; omega, ?_⟩, (ht3.mono (fun k h => .inr h)).setCell (p := ⟨g, 2, none⟩) (fun _ => .inl rfl) _⟩
    · rw [hlen]
      have := hb3.set_ 2 (.int .i64 ((K : Int) + k))
      simpa [rgCells] using this
    · exact hrow3.far (Ne.symm hbg) _
    · rw [length_splice _ _ _ hf2, hl1]
    · exact bytesIn_splice (bytesIn_splice hbin (HBTI.out.take _) _) (HBTI.out.drop _) _
    · rw [hlen]
      have hb := HBTL.out
      have := rc_put buf bt M s K E n1 hM hs (by omega) HEE.out (by rw [hb]; exact HN1.out)
      rw [hb, HRC.out] at this
      exact this
  by_cases hk0 : k = 0
  · obtain rfl : n1 = 0 := by omega
    subst hk0
    have HC20 : Hid (C2 = []) := by show C2 = []; exact List.eq_nil_of_length_eq_zero HC2L.out
    have hfin := HFIN.out
    rw [HC20.out] at hfin
    have HFIN2 := Lib.hid hfin
    clear hfin
    go_region_law (refine step_copy_at rfl (.tmp 42) (.tmp 45) 43 43 rfl 5 Tryz.underlying43 u8_info1r (some ⟨b, 0, none⟩) _ M M 0 _ rfl rfl b 0 (splice (u8s buf) E C1) 5 HROW2.out.drew [] (by simp) (fun _ => rfl) (Rd.nil_ _ _) (by simp) (by simp) ?_; intro w3 hrow3 ht3)
    all_goals
      have htt3 : Touch (At b) w w3 := HT2.out.drew.trans ht3
      have hb3 : Blk w3 g 145 (rgCells b M s K) := HB.out.touch htt3 (fun h => hbg h)
      have c2 := hb3.cell 2
      have f2 := hb3.frozen 2
      have glt := hb3.lt
      simp [rgCells] at c2
      have HB3 := Lib.hid hb3
      have HT3 := Lib.hid htt3
      have HROW3 := Lib.hid hrow3
      clear hb3 htt3 hrow3 ht3 hb2
      go_wp2_with fail
      go_ret
      exact ⟨rfl, HFIN2.out w3 HROW3.out HT3.out HB3.out⟩
  · obtain ⟨gA, off, rfl, hgA, _⟩ := HBTR.out (by intro e; have := congrArg List.length e; rw [u8s_length, HBTL.out] at this; simp at this; omega)
    have hab : gA ≠ b := hA _ rfl
    have HRD2 : Hid (Rd w2.drew (some ⟨gA, off + n1, none⟩) C2) := by
      show Rd w2.drew _ _
      rw [HC2.out]
      have := rd_drop (rd_at (HBTR.out) HT2.out.drew (fun h => hab h)) n1
      simpa [u8s] using this
    by_cases hnn : n1 = n
    · subst hnn
      obtain rfl : k = n1 := by omega
      have HC20 : Hid (C2 = []) := by show C2 = []; exact List.eq_nil_of_length_eq_zero (by rw [HC2L.out]; omega)
      have hfin := HFIN.out
      rw [HC20.out] at hfin
      have HFIN2 := Lib.hid hfin
      clear hfin
      go_region_law (refine step_copy_at rfl (.tmp 42) (.tmp 45) 43 43 rfl 5 Tryz.underlying43 u8_info1r (some ⟨b, 0, none⟩) _ M M 0 _ rfl rfl b 0 (splice (u8s buf) E C1) 5 HROW2.out.drew [] (by simp) (fun _ => rfl) (Rd.nil_ _ _) (by simp) (by simp) ?_; intro w3 hrow3 ht3)
      all_goals
        have htt3 : Touch (At b) w w3 := HT2.out.drew.trans ht3
        have hb3 : Blk w3 g 145 (rgCells b M s K) := HB.out.touch htt3 (fun h => hbg h)
        have c2 := hb3.cell 2
        have f2 := hb3.frozen 2
        have glt := hb3.lt
        simp [rgCells] at c2
        have HB3 := Lib.hid hb3
        have HT3 := Lib.hid htt3
        have HROW3 := Lib.hid hrow3
        clear hb3 htt3 hrow3 ht3 hb2
        go_wp2_with fail
        go_ret
        exact ⟨rfl, HFIN2.out w3 HROW3.out HT3.out HB3.out⟩
    · have hnn2 : ¬ n = n1 := fun h => hnn h.symm
      go_region_law (refine step_copy_at rfl (.tmp 42) (.tmp 45) 43 43 rfl 5 Tryz.underlying43 u8_info1r (some ⟨b, 0, none⟩) (some ⟨gA, off + n1, none⟩) M M (k - n1) (n - n1) rfl rfl b 0 (splice (u8s buf) E C1) 5 HROW2.out.drew C2 (by rw [HC2L.out]; exact (Nat.min_eq_left (by omega)).symm) (fun _ => rfl) HRD2.out (by rw [HC2L.out, HBUF.out]; omega) (by rw [HC2.out]; exact u8s_one _) ?_; intro w3 hrow3 ht3)
      all_goals
        have htt3 : Touch (At b) w w3 := HT2.out.drew.trans ht3
        have hb3 : Blk w3 g 145 (rgCells b M s K) := HB.out.touch htt3 (fun h => hbg h)
        have c2 := hb3.cell 2
        have f2 := hb3.frozen 2
        have glt := hb3.lt
        simp [rgCells] at c2
        have HB3 := Lib.hid hb3
        have HT3 := Lib.hid htt3
        have HROW3 := Lib.hid hrow3
        clear hb3 htt3 hrow3 ht3 hb2
        go_wp2_with fail
        go_ret
        exact ⟨rfl, HFIN.out w3 HROW3.out HT3.out HB3.out⟩
end Go.Proofs.YtlnabpoohnphiaaGreat
/- leg: push. -/
namespace Go.Proofs.YtlnabpoohnphiaaGreat
open Go.RowKit
set_option linter.unusedSimpArgs false
set_option linter.unusedVariables false

set_option maxHeartbeats 3200000 in
set_option maxRecDepth 100000 in
theorem l_push (g rg rb M : Nat) (ring tail : List Int) (hin : bytesIn tail) (v : Value) (cs : Array Value) (w : World) (hb : Blk w g 109 cs) (h14 : cs[14]? = some (.pointer (some ⟨rg, 0, none⟩))) (h15 : cs[15]? = some v)
    (hr : IsR w rg rb M ring) (ht : Win w 5 1 v tail.length (u8s tail)) (hA : v.ownBlock ≠ some rb) :
    Calls Tryz.prog 86 #[.pointer (some ⟨g, 14, none⟩)] w fun e w' => ∃ v', e = .returned (.bool (decide (tail.drop (M - ring.length) = []))) ∧ Blk w' g 109 (cs.setIfInBounds 15 v') ∧
      IsR w' rg rb M (ring ++ tail.take (M - ring.length)) ∧ Win w' 5 1 v' (tail.drop (M - ring.length)).length (u8s (tail.drop (M - ring.length))) ∧ (v'.ownBlock = v.ownBlock) ∧ Touch (fun k => k = g ∨ RO rg rb k) w w' := by
  obtain ⟨n, hn⟩ : ∃ n, n = tail.length := ⟨_, rfl⟩
  obtain ⟨k, hk⟩ : ∃ k, k = min n (M - ring.length) := ⟨_, rfl⟩
  have hkn : k ≤ n := by omega
  have hd : tail.drop (M - ring.length) = tail.drop k := by
    by_cases h : n ≤ M - ring.length
    · rw [List.drop_eq_nil_of_le (by omega), List.drop_eq_nil_of_le (by omega)]
    · rw [hk, Nat.min_eq_right (by omega)]
  have hdl : (tail.drop k).length = n - k := by rw [List.length_drop, hn]
  have hde : decide (tail.drop (M - ring.length) = []) = decide (n - k = 0) := by
    rw [hd, decide_eq_decide, ← hdl, List.length_eq_zero_iff]
  rw [hde, hd, hdl]
  have HD2 : Hid (u8s (tail.drop k) = (u8s tail).drop k) := by show u8s (tail.drop k) = (u8s tail).drop k; simp [u8s]
  obtain ⟨A, c, hv, hnc, hcm, hrd, hsp, hno⟩ := ht.cases
  rw [← hn] at hv hnc hno ht
  have hput := fun (W : World) (HT : Touch NoS w W) => rg_put rg rb M ring tail hin A n c hn.symm hnc hcm W (hr.no HT) (hrd.touch_no HT) (fun a ha => fun e => hA (by rw [hv, ha, ← e]; rfl))
  rw [← hk] at hput
  have HPUT := Lib.hid hput
  have hgr : g ≠ rg ∧ g ≠ rb := by
    obtain ⟨c1, c2, q1, q2⟩ := hr.blk
    exact ⟨hb.ne_ q1 (by decide), hb.ne_ q2 (by decide)⟩
  have HGR := Lib.hid hgr
  have c14 := (hb.cell 14).trans h14
  have c15 := (hb.cell 15).trans h15
  have f15 := hb.frozen 15
  have glt := hb.lt
  have HB := Lib.hid hb
  have HW := Lib.hid ht
  have HAE := Lib.hid hA
  have HN := Lib.hid hn
  have HK := Lib.hid hk
  have HR0 := Lib.hid hr
  subst hv
  rcases A with _ | ⟨gA, off, sp⟩
  · obtain ⟨rfl, rfl⟩ := hno rfl
    obtain rfl : k = 0 := by omega
    clear hput hr hrd hsp hno ht hb h14 h15 hd hde hdl hn hk hA hgr
    go_enter Tryz.func86, Tryz.ntmps86
    go_wp2_with fail
    go_region_with ((go_at_call 109; refine (HPUT.out _ ((Touch.refl _ _).drew)).mono ?_; rintro e w5 ⟨rfl, hr5, ht5⟩; have hb5 := HB.out.drew.touch ht5 (fun h => h.elim HGR.out.1 HGR.out.2); have f15 := hb5.frozen 15; have c14 := (hb5.cell 14).trans ((HB.out.cell 14).symm.trans c14); have c15 := (hb5.cell 15).trans ((HB.out.cell 15).symm.trans c15); have glt := hb5.lt; have HB5 := Lib.hid hb5; have HR5 := Lib.hid hr5; have HT5 := Lib.hid ht5; clear hb5 hr5 ht5))
    all_goals
      go_wp2_with fail
      go_ret
      refine ⟨_, by simp, HB5.out.set_ 15 _, HR5.out.touch ((Touch.refl (At g) _).setAt 15 _) (fun h => HGR.out.1 h.symm) (fun h => HGR.out.2 h.symm), ?_, rfl, (((Touch.refl (RO rg rb) w).drew.trans HT5.out).mono (fun k h => .inr h)).setCell (p := ⟨g, 15, none⟩) (fun _ => .inl rfl) _⟩
      have h0 : tail = [] := List.eq_nil_of_length_eq_zero HN.out.symm
      rw [h0]
      exact Win.nil_ _ _ _
  · obtain ⟨rfl, hlt⟩ := hsp _ rfl
    have HFIN : Hid (∀ w5 V, V = .slice (if c = k then some ⟨gA, off, none⟩ else some ⟨gA, off + k, none⟩) (n - k) (c - k) → Blk w5 g 109 cs → IsR w5 rg rb M (ring ++ tail.take (M - ring.length)) → Touch (RO rg rb) w w5 →
        Blk (w5.setCell ⟨g, 15, none⟩ V) g 109 (cs.setIfInBounds 15 V) ∧ IsR (w5.setCell ⟨g, 15, none⟩ V) rg rb M (ring ++ tail.take (M - ring.length)) ∧ Win (w5.setCell ⟨g, 15, none⟩ V) 5 1 V (n - k) (u8s (tail.drop k)) ∧ V.ownBlock = (Value.slice (some ⟨gA, off, none⟩) n c).ownBlock ∧ Touch (fun k => k = g ∨ RO rg rb k) w (w5.setCell ⟨g, 15, none⟩ V)) := by
      show ∀ w5 V, _
      intro w5 V hV hb5 hr5 htw
      have hw5 : Win w5 5 1 (.slice (some ⟨gA, off, none⟩) n c) n (u8s tail) := HW.out.touch htw (fun b hb hS => by
        rcases hS with rfl | rfl
        · obtain ⟨ds, q⟩ := HW.out.type hb
          obtain ⟨c1, c2, q1, q2⟩ := HR0.out.blk
          exact q.ne_ q1 (by decide) rfl
        · exact HAE.out hb)
      have hVo : V.ownBlock = (Value.slice (some ⟨gA, off, none⟩) n c).ownBlock := by rw [hV]; split <;> rfl
      refine ⟨hb5.set_ 15 _, hr5.touch ((Touch.refl (At g) _).setAt 15 _) (fun h => HGR.out.1 h.symm) (fun h => HGR.out.2 h.symm), ?_, hVo, (htw.mono (fun k h => .inr h)).setCell (p := ⟨g, 15, none⟩) (fun _ => .inl rfl) _⟩
      rw [HD2.out]
      have hc := hw5.cut k hkn
      rw [Nat.mul_one, ← hV] at hc
      exact hc.touch ((Touch.refl (At g) w5).setAt 15 V) (fun b hbo h => by
          have h : b = g := h
          rw [hVo, h] at hbo
          obtain ⟨ds, q⟩ := hw5.type hbo
          exact q.ne_ hb5 (by decide) rfl)
    clear hput hr hrd hsp hno ht hb h14 h15 hd hde hdl hn hk hA hgr
    have HQ : Hid ((((n - k : Nat) : Int) == 0) = decide (n - k = 0)) := by show (((n - k : Nat) : Int) == 0) = decide (n - k = 0); rw [Bool.eq_iff_iff]; simp
    by_cases hck : c = k
    · subst hck
      obtain rfl : n = c := by omega
      go_enter Tryz.func86, Tryz.ntmps86
      go_wp2_with fail
      go_region_with ((go_at_call 109; refine (HPUT.out _ ((Touch.refl _ _).drew)).mono ?_; rintro e w5 ⟨rfl, hr5, ht5⟩; have hb5 := HB.out.drew.touch ht5 (fun h => h.elim HGR.out.1 HGR.out.2); have f15 := hb5.frozen 15; have c14 := (hb5.cell 14).trans ((HB.out.cell 14).symm.trans c14); have c15 := (hb5.cell 15).trans ((HB.out.cell 15).symm.trans c15); have glt := hb5.lt; have HB5 := Lib.hid hb5; have HR5 := Lib.hid hr5; have HT5 := Lib.hid ht5; clear hb5 hr5 ht5))
      all_goals
        go_wp2_with fail
        go_ret
        refine ⟨_, by simp, HFIN.out w5 _ (by simp) HB5.out HR5.out ((Touch.refl (RO rg rb) w).drew.trans HT5.out)⟩
    · go_enter Tryz.func86, Tryz.ntmps86
      go_wp2_with fail
      go_region_with ((go_at_call 109; refine (HPUT.out _ ((Touch.refl _ _).drew)).mono ?_; rintro e w5 ⟨rfl, hr5, ht5⟩; have hb5 := HB.out.drew.touch ht5 (fun h => h.elim HGR.out.1 HGR.out.2); have f15 := hb5.frozen 15; have c14 := (hb5.cell 14).trans ((HB.out.cell 14).symm.trans c14); have c15 := (hb5.cell 15).trans ((HB.out.cell 15).symm.trans c15); have glt := hb5.lt; have HB5 := Lib.hid hb5; have HR5 := Lib.hid hr5; have HT5 := Lib.hid ht5; clear hb5 hr5 ht5))
      all_goals
        go_wp2_with fail
        go_ret
        refine ⟨_, by simp [HQ.out], HFIN.out w5 _ (by simp [hck]) HB5.out HR5.out ((Touch.refl (RO rg rb) w).drew.trans HT5.out)⟩
end Go.Proofs.YtlnabpoohnphiaaGreat
/- rows of frames. -/
namespace Go.Proofs.YtlnabpoohnphiaaGreat
open Go.RowKit
set_option linter.unusedSimpArgs false
set_option linter.unusedVariables false

/-- The cells of frames. -/
def frs (l : List Fr) : List Value := l.flatMap Fr.cl
theorem frs_length (l : List Fr) : (frs l).length = l.length * 8 := by
  induction l with
  | nil => rfl
  | cons e l ih => simp [frs, Fr.cl] at ih ⊢; omega
theorem frs_append (a b : List Fr) : frs (a ++ b) = frs a ++ frs b := by simp [frs]
theorem frs_one (l : List Fr) : ∀ u ∈ frs l, u.oneCell' = true := by
  intro u hu
  simp only [frs, List.mem_flatMap] at hu
  obtain ⟨e, _, he⟩ := hu
  simp [Fr.cl] at he
  rcases he with rfl | rfl | rfl | rfl | rfl | rfl | rfl | rfl <;> rfl
theorem frs_single (f : Fr) : frs [f] = f.cl := by simp [frs]
theorem info_fr : (Tryz.prog.info? 42).map (fun i => (i.zero, i.size, i.bytes)) = some (some (.agg #[.bool false, .int .i64 0, .bool false, .int .u8 0, .int .u8 0, .int .u8 0, .int .u8 0, .string ⟨#[]⟩]), 8, 40) := by kernel_rfl
theorem own_ne {w : World} {base : Nat} {e t : TypeId} {size n : Nat} {v : Value} {xs : List Value} {b : Nat} {cs : Array Value} (h : w.ownsRow base e size v n xs) (hb : Blk w b t cs) (hne : e ≠ t) : v.ownBlock ≠ some b := fun hv => by
  obtain ⟨cs', hb'⟩ := own_type h hv
  exact hb'.ne_ hb hne rfl
theorem own_apart {w w' : World} {base base' : Nat} {e t : TypeId} {size size' n n' : Nat} {v u : Value} {xs ys : List Value} (h : w.ownsRow base e size v n xs) (hu : w.ownsRow base' t size' u n' ys) (hne : e ≠ t) (hg : w.grownBy w' u.ownBlock) : w'.ownsRow base e size v n xs :=
  own_touch (S := fun b => u.ownBlock = some b) h ((Touch.refl _ w).grown hg (fun k hk _ => hk)) fun b hb hk => by
    obtain ⟨cs, hc⟩ := own_type hu hk
    exact own_ne h hc hne hb
theorem own_far {w : World} {base g : Nat} {e t : TypeId} {size n : Nat} {v : Value} {xs : List Value} {cs : Array Value} (h : w.ownsRow base e size v n xs) (hb : Blk w g t cs) (hne : e ≠ t) (i : Nat) (u : Value) : (w.setCell ⟨g, i, none⟩ u).ownsRow base e size v n xs :=
  own_touch h ((Touch.refl (At g) w).setAt i u) fun b hb' (he : b = g) => own_ne h hb hne (he ▸ hb')

theorem flat_at {α : Type} (cells : α → List Value) (s : Nat) (hs : ∀ x, (cells x).length = s) : ∀ (l : List α) (k : Nat) (hk : k < l.length) (j : Nat), j < s → (l.flatMap cells)[k * s + j]? = (cells l[k])[j]? := by
  intro l
  induction l with
  | nil => intro k hk; simp at hk
  | cons e l ih =>
    intro k hk j hj
    rw [List.flatMap_cons]
    cases k with
    | zero => simp only [Nat.zero_mul, Nat.zero_add]; rw [List.getElem?_append_left (by rw [hs]; exact hj)]; rfl
    | succ k =>
      rw [List.getElem?_append_right (by rw [hs, Nat.succ_mul]; omega), hs, show (k + 1) * s + j - s = k * s + j from by rw [Nat.succ_mul]; omega]
      exact ih k (by simpa using hk) j hj
theorem fr_cells {w : World} {A : Option Addr} {l : List Fr} (h : Rd w A (frs l)) (k : Nat) (hk : k < l.length) : ∃ g off, A = some ⟨g, off, none⟩ ∧ g < w.heap.size ∧
    w.cell? ⟨g, off + k * 8, none⟩ = some (.bool l[k].fin) ∧ w.cell? ⟨g, off + k * 8 + 1, none⟩ = some (.int .i64 l[k].op) ∧ w.cell? ⟨g, off + k * 8 + 2, none⟩ = some (.bool l[k].masked) ∧
    w.cell? ⟨g, off + k * 8 + 3, none⟩ = some (.int .u8 l[k].k0) ∧ w.cell? ⟨g, off + k * 8 + 4, none⟩ = some (.int .u8 l[k].k1) ∧ w.cell? ⟨g, off + k * 8 + 5, none⟩ = some (.int .u8 l[k].k2) ∧ w.cell? ⟨g, off + k * 8 + 6, none⟩ = some (.int .u8 l[k].k3) ∧
    w.cell? ⟨g, off + k * 8 + 7, none⟩ = some (.string l[k].data) := by
  have hf := flat_at Fr.cl 8 (fun _ => rfl) l k hk
  obtain ⟨g, off, hA, hg, hc⟩ := h (by intro he; have := hf 0 (by omega); unfold frs at he; rw [he] at this; simp [Fr.cl] at this)
  have hc' : ∀ j (hj : j < 8) u, (Fr.cl l[k])[j]? = some u → w.cell? ⟨g, off + k * 8 + j, none⟩ = some u := fun j hj u hu => by
    rw [Nat.add_assoc]; exact hc _ u ((hf j hj).trans hu)
  exact ⟨g, off, hA, hg, hc' 0 (by omega) _ rfl, hc' 1 (by omega) _ rfl, hc' 2 (by omega) _ rfl, hc' 3 (by omega) _ rfl, hc' 4 (by omega) _ rfl, hc' 5 (by omega) _ rfl, hc' 6 (by omega) _ rfl, hc' 7 (by omega) _ rfl⟩
theorem take_succ_eq {α : Type} (l m : List α) (k : Nat) (hl : k < l.length) (hm : k < m.length) (h : l.take k = m.take k) : l.take (k + 1) = m.take (k + 1) ↔ l[k] = m[k] := by
  have e1 : l.take (k + 1) = l.take k ++ [l[k]] := by simp
  have e2 : m.take (k + 1) = m.take k ++ [m[k]] := by simp
  rw [e1, e2, h]
  constructor
  · intro h'; have := List.append_cancel_left h'; simpa using this
  · intro h'; rw [h']

end Go.Proofs.YtlnabpoohnphiaaGreat
