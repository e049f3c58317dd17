/- Slices of rows of the program's own making, from whatever place on (Win): touched, cut, written, appended to. | ring: New, Len, Room; the law of copy by what it touches. -/
import Derived.Test.YtpadlcllcmodaaaY05
import Derived.Test.YtpadlcllcmodaaaY02
import Derived.Test.YtpadlcllcmodaaaY03
import Derived.ArgAppend
/- Slices of rows of the program's own making, from whatever place on (Win): touched, cut, written, appended to. -/
namespace Go.Proofs.Ytpadlcllcmodaaa
open Go.RowKit
set_option linter.unusedSimpArgs false
set_option linter.unusedVariables false

def Win (w : World) (e : TypeId) (size : Nat) (v : Value) (n : Nat) (xs : List Value) : Prop :=
  xs.length = n * size ∧ ((v = .slice none 0 0 ∧ n = 0) ∨ ∃ g off c cs, v = .slice (some ⟨g, off, none⟩) n c ∧ Blk w g e cs ∧ n ≤ c ∧ c ≤ maxLen ∧ off + c * size ≤ cs.size ∧ (cs.toList.drop off).take (n * size) = xs)
section
variable {S : Nat → Prop} {w w' : World} {base : Nat} {e : TypeId} {size n : Nat} {v : Value} {xs : List Value}
theorem Win.of_own (h : w.ownsRow base e size v n xs) : Win w e size v n xs := by
  refine ⟨h.1, ?_⟩
  rcases h.2 with hn | ⟨g, cap, cur, rfl, hb, hg, hc, hm, hs, ht⟩
  · exact .inl hn
  · refine .inr ⟨g, 0, cap, cur, rfl, hg, hc, hm, by omega, ?_⟩
    rw [List.drop_zero]
    exact ht
theorem Win.nil_ (w : World) (e : TypeId) (size : Nat) : Win w e size (.slice none 0 0) 0 [] := ⟨by simp, .inl ⟨rfl, rfl⟩⟩
theorem Win.touch (h : Win w e size v n xs) (k : Touch S w w') (hS : ∀ b, v.ownBlock = some b → ¬ S b) : Win w' e size v n xs := by
  refine ⟨h.1, ?_⟩
  rcases h.2 with hn | ⟨g, off, c, cs, rfl, hb, r⟩
  · exact .inl hn
  · exact .inr ⟨g, off, c, cs, rfl, hb.touch k (hS g rfl), r⟩
theorem Win.no (h : Win w e size v n xs) (k : Touch NoS w w') : Win w' e size v n xs := h.touch k fun _ _ h => h
theorem Win.type (h : Win w e size v n xs) {b : Nat} (hv : v.ownBlock = some b) : ∃ cs, Blk w b e cs := by
  rcases h.2 with ⟨rfl, _⟩ | ⟨g, off, c, cs, rfl, hb, _⟩
  · cases hv
  · injection hv with hv
    subst hv
    exact ⟨cs, hb⟩
theorem Win.cases (h : Win w e size v n xs) : ∃ A c, v = .slice A n c ∧ n ≤ c ∧ c ≤ maxLen ∧ Rd w A xs ∧ (∀ a, A = some a → a.spot = none ∧ a.block < w.heap.size) ∧ (A = none → n = 0 ∧ c = 0) := by
  rcases h.2 with ⟨rfl, rfl⟩ | ⟨g, off, c, cs, rfl, hb, h1, h2, h3, h4⟩
  · have hx : xs = [] := List.eq_nil_of_length_eq_zero (by rw [h.1]; simp)
    subst hx
    exact ⟨none, 0, rfl, Nat.le_refl _, by simp [maxLen], fun h => absurd rfl h, (fun a ha => by cases ha), fun _ => ⟨rfl, rfl⟩⟩
  · refine ⟨_, c, rfl, h1, h2, fun _ => ⟨g, off, rfl, hb.lt, fun j u hu => ?_⟩, fun a ha => by injection ha with ha; subst ha; exact ⟨rfl, hb.lt⟩, fun h => by cases h⟩
    rw [hb.cell]
    rw [← h4, List.getElem?_take] at hu
    split at hu
    · rw [List.getElem?_drop] at hu
      simpa using hu
    · cases hu
/-- Without its first ones. -/
theorem Win.cut {g off c : Nat} (h : Win w e size (.slice (some ⟨g, off, none⟩) n c) n xs) (k : Nat) (hk : k ≤ n) : Win w e size (.slice (if c = k then some ⟨g, off, none⟩ else some ⟨g, off + k * size, none⟩) (n - k) (c - k)) (n - k) (xs.drop (k * size)) := by
  refine ⟨by rw [List.length_drop, h.1, Nat.sub_mul], .inr ?_⟩
  rcases h.2 with ⟨hv, _⟩ | ⟨g', off', c', cs, hv, hb, h1, h2, h3, h4⟩
  · cases hv
  · injection hv with e1 _ e3
    injection e1 with e1
    injection e1 with e1 e2
    subst e1 e2 e3
    by_cases hck : c = k
    · have hnk : n = k := by omega
      subst hck
      refine ⟨g, off, 0, cs, by rw [if_pos rfl, Nat.sub_self], hb, by omega, by omega, by omega, ?_⟩
      rw [hnk, Nat.sub_self, Nat.zero_mul, List.take_zero, List.drop_eq_nil_of_le]
      rw [h.1, hnk]
      exact Nat.le_refl _
    · refine ⟨g, off + k * size, c - k, cs, by rw [if_neg hck], hb, by omega, by omega, ?_, ?_⟩
      · have : k * size + (c - k) * size = c * size := by rw [← Nat.add_mul]; congr 1; omega
        omega
      · rw [← h4, ← List.drop_drop, List.drop_take, ← Nat.sub_mul]
end
theorem splice_cons {L : List Value} {o : Nat} (v : Value) (vs : List Value) (h : o + (v :: vs).length ≤ L.length) : splice (L.set o v) (o + 1) vs = splice L o (v :: vs) := by
  have hl : o + 1 + vs.length ≤ (L.set o v).length := by simp at h ⊢; omega
  apply List.ext_getElem?
  intro i
  rw [splice_get _ _ _ hl, splice_get _ _ _ h]
  simp only [List.length_cons] at h ⊢
  by_cases h1 : i < o
  · rw [if_pos (by omega), if_pos h1, List.getElem?_set_ne (by omega)]
  · rw [if_neg h1]
    by_cases h2 : i = o
    · subst h2
      rw [if_pos (by omega), if_pos (by omega), List.getElem?_set_self (by omega)]
      simp
    · rw [if_neg (by omega)]
      by_cases h3 : i < o + 1 + vs.length
      · rw [if_pos h3, if_pos (by omega), show i - o = (i - (o + 1)) + 1 from by omega, List.getElem?_cons_succ]
      · rw [if_neg h3, if_neg (by omega), List.getElem?_set_ne (by omega)]
theorem Blk.sets {b : Nat} {e : TypeId} : ∀ (vs : List Value) (o : Nat) (w : World) (cs : Array Value), Blk w b e cs → o + vs.length ≤ cs.size → ∃ cs', Blk (w.setCells b o vs) b e cs' ∧ cs'.toList = splice cs.toList o vs ∧ Touch (At b) w (w.setCells b o vs) := by
  intro vs
  induction vs with
  | nil =>
    intro o w cs h ho
    exact ⟨cs, h, by simp [splice], Touch.refl _ _⟩
  | cons v vs ih =>
    intro o w cs h ho
    obtain ⟨cs', h1, h2, h3⟩ := ih (o + 1) (w.setCell ⟨b, o, none⟩ v) _ (h.set_ o v) (by simp at ho ⊢; omega)
    refine ⟨cs', h1, ?_, ((Touch.refl (At b) w).setAt o v).trans h3⟩
    rw [h2, Array.toList_setIfInBounds]
    exact splice_cons v vs (by simpa using ho)
theorem run_app_win {P : Program} (w : World) (t ty e : TypeId) (i : TypeInfo) (z : Value) (size bytes : Nat) (ht : P.underlying t = some (.slice e)) (hi : P.info? e = some i) (hz : i.zero = some z)
    (hsize : i.size = size) (hby : i.bytes = bytes) (hzs : z.cells.size = size) (hsz : 0 < size)
    (v : Value) (n : Nat) (xs : List Value) (hw : Win w e size v n xs)
    (ad : Addr) (m c : Nat) (news : List Value) (hl : news.length = m * size) (hnews : ∀ j u, news[j]? = some u → w.cell? (ad.add j) = some u) (h1 : ∀ u ∈ news, u.oneCell' = true)
    (h63 : n + m ≤ maxLen) (hbytes : (n + m) * bytes ≤ 140737488355328) :
    ∃ v' w', (Builtin.append_ #[t, t] ty #[v, .slice (some ad) m c]).run P w = .ok v' w' ∧ Win w' e size v' (n + m) (xs ++ news) ∧ Touch (fun k => v.ownBlock = some k) w w' ∧ Loc w v v' := by
  rcases hw.2 with ⟨rfl, rfl⟩ | ⟨g, off, cap, cs, rfl, hb, hn, hm, hs, hx⟩
  · obtain rfl : xs = [] := List.eq_nil_of_length_eq_zero (by rw [hw.1]; simp)
    obtain ⟨v', w', hrun, h2, h3, h4, h5⟩ := run_append_own_at (P := P) w w.heap.size t ty e i z size bytes ht hi hz hsize hby hzs hsz (.slice none 0 0) 0 [] (own_nil _ _ _ _) ad m c news hl hnews h1 h63 hbytes (Nat.le_refl _)
    exact ⟨v', w', hrun, Win.of_own h2, (Touch.refl _ _).grown h3 (fun k hk _ => by cases hk), Loc.app h5 (Nat.le_refl _)⟩
  · by_cases hr : n + m ≤ cap
    · subst hsize
      have hle : off + n * i.size + news.length ≤ cs.size := by
        rw [hl]
        have := Nat.mul_le_mul_right i.size hr
        rw [Nat.add_mul] at this
        omega
      have hrun := run_append_room_cells (P := P) w t ty e i ht hi g off n cap ad m c news hl hnews h1 hr (fun j hj => by rw [hb.cell]; simp; omega) (fun j hj => hb.frozen _)
      obtain ⟨cs', q1, q2, q3⟩ := Blk.sets news (off + n * i.size) w cs hb hle
      refine ⟨_, _, hrun, ⟨by rw [List.length_append, hw.1, hl, Nat.add_mul], .inr ⟨g, off, cap, cs', rfl, q1, hr, hm, ?_, ?_⟩⟩, q3.mono (fun k hk => by rw [hk]; rfl), Loc.refl _ _⟩
      · have : cs'.toList.length = cs.toList.length := by rw [q2, length_splice _ _ _ (by simpa using hle)]
        simp at this
        omega
      · rw [q2]
        apply List.ext_getElem?
        intro j
        have hxl := hw.1
        rw [List.getElem?_take, List.getElem?_drop, splice_get _ _ _ (by simpa using hle), List.getElem?_append, hxl, hl, Nat.add_mul]
        by_cases hj : j < n * i.size
        · rw [if_pos (by omega), if_pos (by omega), if_pos hj, ← hx, List.getElem?_take, if_pos hj, List.getElem?_drop]
        · rw [if_neg hj]
          by_cases hj2 : j < n * i.size + m * i.size
          · rw [if_pos hj2, if_neg (by omega), if_pos (by omega)]
            congr 1
            omega
          · rw [if_neg hj2, List.getElem?_eq_none (by omega)]
    · obtain ⟨v', w', hrun, r1, r2⟩ := run_append_arg_grows (P := P) w t ty e i z size bytes ht hi hz hsize hby hzs hsz ⟨g, off, none⟩ n cap xs hw.1 (fun j u hu => by
        rw [add_plain, hb.cell]
        rw [← hx, List.getElem?_take] at hu
        split at hu
        · rw [List.getElem?_drop] at hu
          simpa using hu
        · cases hu) ad m c news hl hnews (by omega) h63 hbytes
      exact ⟨v', w', hrun, Win.of_own r1, (Touch.refl _ _).grown r2 (fun k hk _ => by cases hk), fun b hb => .inr (own_base r1 hb)⟩
theorem wpList_app_win {P : Program} (w : World) {ops : Array Oper} {rest : List Oper} {o : Oper} {a : Act} {Q : Exit → Act → World → Prop} (hgd : o.guard = none) (s x : Operand) (t : TypeId)
    (ho : o.op = .call { callee := .builtin .append, args := #[s, x], argTypes := #[t, t] })
    (e : TypeId) (i : TypeInfo) (z : Value) (size bytes : Nat) (ht : P.underlying t = some (.slice e)) (hi : P.info? e = some i) (hz : i.zero = some z)
    (hsize : i.size = size) (hby : i.bytes = bytes) (hzs : z.cells.size = size) (hsz : 0 < size)
    (v : Value) (n : Nat) (xs : List Value) (hs : a.eval s = v) (hw : Win w e size v n xs)
    (ad : Addr) (m c : Nat) (news : List Value) (hx : a.eval x = .slice (some ad) m c) (hl : news.length = m * size) (hnews : ∀ j u, news[j]? = some u → w.cell? (ad.add j) = some u) (h1 : ∀ u ∈ news, u.oneCell' = true)
    (h63 : n + m ≤ maxLen) (hbytes : (n + m) * bytes ≤ 140737488355328)
    (h : ∀ v' w', Win w' e size v' (n + m) (xs ++ news) → Touch (fun k => v.ownBlock = some k) w w' → Loc w v v' → wpList P ops Q rest (a.put o.dst v') w') : wpList P ops Q (o :: rest) a w := by
  refine wpList_plain hgd fun _ hK => ?_
  obtain ⟨v', w', hrun, h2, h3, h4⟩ := run_app_win (P := P) w t o.type e i z size bytes ht hi hz hsize hby hzs hsz v n xs hw ad m c news hl hnews h1 h63 hbytes
  unfold Oper.wp execOp
  simp only [ho, resolve, invoke, builtin, Sem.run_bind, Sem.run_pure, Result.andThen_ok, List.map_toArray, List.map_cons, List.map_nil, hs, hx, hrun]
  exact hK _ _ (h v' w' h2 h3 h4)
theorem step_app_win {P : Program} (w : World) {ops : Array Oper} {o : Oper} {a : Act} {K : Act → World → Prop} {Q : Exit → Act → World → Prop} {E : Prop} (hgd : o.guard = none) (s x : Operand) (t : TypeId)
    (ho : o.op = .call { callee := .builtin .append, args := #[s, x], argTypes := #[t, t] })
    (e : TypeId) (i : TypeInfo) (z : Value) (size bytes : Nat) (ht : P.underlying t = some (.slice e)) (hi : P.info? e = some i) (hz : i.zero = some z)
    (hsize : i.size = size) (hby : i.bytes = bytes) (hzs : z.cells.size = size) (hsz : 0 < size)
    (v : Value) (n : Nat) (xs : List Value) (hs : a.eval s = v) (hw : Win w e size v n xs)
    (ad : Addr) (m c : Nat) (news : List Value) (hx : a.eval x = .slice (some ad) m c) (hl : news.length = m * size) (hnews : ∀ j u, news[j]? = some u → w.cell? (ad.add j) = some u) (h1 : ∀ u ∈ news, u.oneCell' = true)
    (h63 : n + m ≤ maxLen) (hbytes : (n + m) * bytes ≤ 140737488355328)
    (h : ∀ v' w', Win w' e size v' (n + m) (xs ++ news) → Touch (fun k => v.ownBlock = some k) w w' → Loc w v v' → K (a.put o.dst v') w') :
    if Region.wanted o (yielded ops a.tmps) = true then Oper.wp P o a w K Q else E := by
  have hw2 : Region.wanted o (yielded ops a.tmps) = true := by simp [Region.wanted, hgd]
  rw [if_pos hw2]
  obtain ⟨v', w', hrun, h2, h3, h4⟩ := run_app_win (P := P) w t o.type e i z size bytes ht hi hz hsize hby hzs hsz v n xs hw ad m c news hl hnews h1 h63 hbytes
  unfold Oper.wp execOp
  simp only [ho, resolve, invoke, builtin, Sem.run_bind, Sem.run_pure, Result.andThen_ok, List.map_toArray, List.map_cons, List.map_nil, hs, hx, hrun]
  exact h v' w' h2 h3 h4
end Go.Proofs.Ytpadlcllcmodaaa
/- ring: New, Len, Room; the law of copy by what it touches. -/
namespace Go.Proofs.Ytpadlcllcmodaaa
open Go.RowKit
set_option linter.unusedSimpArgs false
set_option linter.unusedVariables false

def rgCells (b M : Nat) (s : Nat) (size : Nat) : Array Value := #[.slice (some ⟨b, 0, none⟩) M M, .int .i64 s, .int .i64 size]
/-- A ring: itself, its bytes' block, what it holds. -/
def IsR (w : World) (g b M : Nat) (l : List Int) : Prop :=
  ∃ (s : Nat) (buf : List Int), Blk w g 99 (rgCells b M s l.length) ∧ Blk w b 5 (u8s buf).toArray ∧ buf.length = M ∧ bytesIn buf ∧ s < M ∧ M ≤ 65536 ∧ l.length ≤ M ∧ rc buf s l.length = l
def RO (g b : Nat) (k : Nat) : Prop := k = g ∨ k = b
section
variable {w w' : World} {g b M : Nat} {l : List Int}
theorem IsR.touch {S : Nat → Prop} (h : IsR w g b M l) (k : Touch S w w') (h1 : ¬ S g) (h2 : ¬ S b) : IsR w' g b M l := by
  obtain ⟨s, buf, hb, hr, h⟩ := h
  exact ⟨s, buf, hb.touch k h1, hr.touch k h2, h⟩
theorem IsR.no (h : IsR w g b M l) (k : Touch NoS w w') : IsR w' g b M l := h.touch k (fun h => h) (fun h => h)
theorem IsR.le (h : IsR w g b M l) : l.length ≤ M ∧ M ≤ 65536 ∧ 0 < M := by
  obtain ⟨s, buf, _, _, _, _, h1, h2, h3, _⟩ := h
  exact ⟨h3, h2, by omega⟩
theorem IsR.bytes (h : IsR w g b M l) : bytesIn l := by
  obtain ⟨s, buf, _, _, hM, hin, h1, h2, h3, h4⟩ := h
  rw [← h4]
  intro x hx
  unfold rc at hx
  obtain ⟨i, hi, rfl⟩ := List.mem_map.1 hx
  have hi := List.mem_range.1 hi
  have hw : wrp buf.length (s + i) < buf.length := by rw [hM]; exact wrp_lt (by omega) (by omega)
  simp only [List.getD, List.getElem?_eq_getElem hw, Option.getD_some]
  exact hin _ (List.getElem_mem hw)
theorem IsR.lt (h : IsR w g b M l) : g < w.heap.size ∧ b < w.heap.size := by
  obtain ⟨s, buf, hb, hr, _⟩ := h
  exact ⟨hb.lt, hr.lt⟩
theorem IsR.blk (h : IsR w g b M l) : ∃ cs ds, Blk w g 99 cs ∧ Blk w b 5 ds := by
  obtain ⟨s, buf, hb, hr, _⟩ := h
  exact ⟨_, _, hb, hr⟩
end

theorem u8_info1r : (Try.prog.info? 5).map (·.size) = some 1 := by kernel_rfl
theorem Rd.nil_ (w : World) (A : Option Addr) : Rd w A [] := fun h => absurd rfl h
theorem rd_take {w : World} {A : Option Addr} {xs : List Value} (h : Rd w A xs) (n : Nat) : Rd w A (xs.take n) := fun hx => by
  obtain ⟨g, off, e1, e2, e3⟩ := h (by rintro rfl; simp at hx)
  refine ⟨g, off, e1, e2, fun j u hu => e3 j u ?_⟩
  rw [List.getElem?_take] at hu
  split at hu
  · exact hu
  · cases hu
theorem rd_drop {w : World} {g off : Nat} {xs : List Value} (h : Rd w (some ⟨g, off, none⟩) xs) (n : Nat) : Rd w (some ⟨g, off + n, none⟩) (xs.drop n) := fun hx => by
  obtain ⟨g2, o2, e1, e2, e3⟩ := h (by rintro rfl; simp at hx)
  injection e1 with e1
  injection e1 with e1 e4
  subst e1 e4
  refine ⟨g, off + n, rfl, e2, fun j u hu => ?_⟩
  rw [List.getElem?_drop] at hu
  rw [Nat.add_assoc]
  exact e3 _ u hu
theorem rd_at {S : Nat → Prop} {w w' : World} {g off : Nat} {xs : List Value} (h : Rd w (some ⟨g, off, none⟩) xs) (k : Touch S w w') (hS : ¬ S g) : Rd w' (some ⟨g, off, none⟩) xs := fun hx => by
  obtain ⟨g2, o2, e1, e2, e3⟩ := h hx
  injection e1 with e1
  injection e1 with e1 e4
  subst e1 e4
  refine ⟨g, off, rfl, Nat.lt_of_lt_of_le e2 k.size, fun j u hu => ?_⟩
  exact (World.cell?_of_block (k.block g e2 hS)).trans (e3 j u hu)
theorem touch_setRow {g : Nat} (w : World) (cs : Array Value) : Touch (At g) w (w.setRow g cs) :=
  ⟨rfl, rfl, rfl, by simp [World.setRow], fun k hk hn => setRow_other w g k cs (fun h => hn h)⟩
theorem wpList_copy_at {P : Program} {w : World} {ops : Array Oper} {rest : List Oper} {o : Oper} {a : Act} {Q : Exit → Act → World → Prop} (hgd : o.guard = none) (d s : Operand) (dT sT : TypeId)
    (ho : o.op = .call { callee := .builtin .copy, args := #[d, s], argTypes := #[dT, sT] }) (elem : TypeId) (hu : P.underlying dT = some (.slice elem)) (hsz : (P.info? elem).map (·.size) = some 1)
    (dp sp : Option Addr) (dLen dCap sLen sCap : Nat) (hd : a.eval d = .slice dp dLen dCap) (hs : a.eval s = .slice sp sLen sCap)
    (g off : Nat) (cur : List Value) (t : TypeId) (hg : Blk w g t cur.toArray) (cs : List Value) (hn : cs.length = Nat.min sLen dLen)
    (hpos : 0 < cs.length → dp = some ⟨g, off, none⟩) (hrd : Rd w sp cs)
    (hfit : off + cs.length ≤ cur.length) (h1 : ∀ v ∈ cs, v.oneCell' = true)
    (h : ∀ w', Blk w' g t (splice cur off cs).toArray → Touch (At g) w w' → wpList P ops Q rest (a.put o.dst (goInt cs.length)) w') :
    wpList P ops Q (o :: rest) a w := by
  by_cases h0 : cs.length = 0
  · obtain rfl : cs = [] := List.eq_nil_of_length_eq_zero h0
    refine wpList_copy_nothing hgd d s dT sT ho elem hu hsz dp sp dLen dCap sLen sCap hd hs (by simpa using hn.symm) ?_
    exact h w (by simpa [splice] using hg) (Touch.refl _ _)
  · obtain rfl := hpos (by omega)
    obtain ⟨g2, o2, rfl, _, hc⟩ := hrd (by rintro rfl; simp at h0)
    refine wpList_copy_own hgd d s dT sT ho elem hu hsz g off dLen dCap ⟨g2, o2, none⟩ sLen sCap hd hs cur.toArray t hg cs hn (fun j v hv => by rw [add_plain]; exact hc j v hv) (by simpa using hfit) h1 ?_
    exact h _ (by unfold Blk; simpa [splice] using setRow_heap w g _ _ t _ hg) (touch_setRow w _)
theorem step_copy_at {P : Program} {ops : Array Oper} {o : Oper} {a : Act} {w : World} {K : Act → World → Prop} {Q : Exit → Act → World → Prop} {E : Prop} (hgd : o.guard = none) (d s : Operand) (dT sT : TypeId)
    (ho : o.op = .call { callee := .builtin .copy, args := #[d, s], argTypes := #[dT, sT] }) (elem : TypeId) (hu : P.underlying dT = some (.slice elem)) (hsz : (P.info? elem).map (·.size) = some 1)
    (dp sp : Option Addr) (dLen dCap sLen sCap : Nat) (hd : a.eval d = .slice dp dLen dCap) (hs : a.eval s = .slice sp sLen sCap)
    (g off : Nat) (cur : List Value) (t : TypeId) (hg : Blk w g t cur.toArray) (cs : List Value) (hn : cs.length = Nat.min sLen dLen)
    (hpos : 0 < cs.length → dp = some ⟨g, off, none⟩) (hrd : Rd w sp cs)
    (hfit : off + cs.length ≤ cur.length) (h1 : ∀ v ∈ cs, v.oneCell' = true)
    (h : ∀ w', Blk w' g t (splice cur off cs).toArray → Touch (At g) w w' → K (a.put o.dst (goInt cs.length)) w') :
    if Region.wanted o (yielded ops a.tmps) = true then Oper.wp P o a w K Q else E := by
  have hw : Region.wanted o (yielded ops a.tmps) = true := by simp [Region.wanted, hgd]
  rw [if_pos hw]
  by_cases h0 : cs.length = 0
  · obtain rfl : cs = [] := List.eq_nil_of_length_eq_zero h0
    have hrun := run_copy_none (P := P) w dT sT o.type elem dp sp dLen dCap sLen sCap hu hsz (by simpa using hn.symm)
    unfold Oper.wp
    simp [execOp, ho, resolve, invoke, builtin, hd, hs, hrun, Result.andThen]
    exact h w (by simpa [splice] using hg) (Touch.refl _ _)
  · obtain rfl := hpos (by omega)
    obtain ⟨g2, o2, rfl, _, hc⟩ := hrd (by rintro rfl; simp at h0)
    have hrun := run_copy_row (P := P) w dT sT o.type elem g off dLen dCap ⟨g2, o2, none⟩ sLen sCap cur.toArray t cs hu hsz hg hn (fun j v hv => by rw [add_plain]; exact hc j v hv) (by simpa using hfit) h1
    unfold Oper.wp
    simp [execOp, ho, resolve, invoke, builtin, hd, hs, hrun, Result.andThen]
    exact h _ (by unfold Blk; simpa [splice] using setRow_heap w g _ _ t _ hg) (touch_setRow w _)

set_option maxHeartbeats 1600000 in
set_option maxRecDepth 100000 in
theorem rg_new (most : Int) (h1 : 1 ≤ most) (h2 : most ≤ 65536) (w : World) : Calls Try.prog 30 #[.int .i64 most] w fun e w' =>
    ∃ g b, e = .returned (.tuple #[.pointer (some ⟨g, 0, none⟩), .int .i64 0]) ∧ w.heap.size ≤ g ∧ w.heap.size ≤ b ∧ IsR w' g b most.toNat [] ∧ Touch NoS w w' := by
  obtain ⟨M, rfl⟩ : ∃ M : Nat, most = (M : Int) := ⟨most.toNat, by omega⟩
  have hmk := make_u8 w M (by omega)
  go_enter Try.func30, Try.ntmps30
  go_wp2_with fail
  go_ret2
  refine ⟨w.heap.size + 1, w.heap.size, rfl, by omega, Nat.le_refl _, ⟨0, List.replicate M 0, ?_, ?_, ?_, ?_, by omega, by omega, Nat.zero_le _, rfl⟩, ((Touch.refl _ _).alloc _).alloc _⟩
  · have := Blk.new (w.alloc (Obj.cells (List.replicate M (Value.int IntKind.u8 0)).toArray 5)) 99 (rgCells w.heap.size M 0 0)
    simpa [rgCells] using this
  · have := (Blk.new w 5 (List.replicate M (Value.int IntKind.u8 0)).toArray).alloc (Obj.cells (rgCells w.heap.size M 0 0) 99)
    simpa [rgCells, u8s] using this
  · simp
  · intro x hx
    have := List.eq_of_mem_replicate hx
    omega
theorem rg_len (g b M s k : Nat) (w : World) (hb : Blk w g 99 (rgCells b M s k)) : Calls Try.prog 41 #[.pointer (some ⟨g, 0, none⟩)] w fun e w' => e = .returned (.int .i64 k) ∧ w = w' := by
  have c2 := hb.cell 2
  simp [rgCells] at c2
  go_enter Try.func41, Try.ntmps41
  go_wp2
  go_ret
  exact ⟨rfl, rfl⟩
theorem rg_room (g b M s k : Nat) (hM : M ≤ 65536) (hk : k ≤ M) (w : World) (hb : Blk w g 99 (rgCells b M s k)) : Calls Try.prog 95 #[.pointer (some ⟨g, 0, none⟩)] w fun e w' => e = .returned (.int .i64 ((M : Int) - k)) ∧ Touch NoS w w' := by
  have c0 := hb.cell 0
  have c2 := hb.cell 2
  simp [rgCells] at c0 c2
  have glt := hb.lt
  clear hb
  go_enter Try.func95, Try.ntmps95
  go_wp2_with fail
  go_quiet (fail)
  go_wp2
  go_ret
  exact ⟨rfl, (Touch.refl _ _).drewN _⟩
end Go.Proofs.Ytpadlcllcmodaaa
