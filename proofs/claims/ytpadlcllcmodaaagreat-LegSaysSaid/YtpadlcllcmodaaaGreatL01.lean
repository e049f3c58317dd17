/- law16: LegSays: how frames tell messages; plain Lean. | Slice expressions of rows that came in: the new address under a name. | law16: LegSays: the walk. -/
import Derived.Test.YtpadlcllcmodaaaGreatG29
import Derived.Test.YtpadlcllcmodaaaGreatG22
import Derived.Test.YtpadlcllcmodaaaGreatG01
import Derived.Test.YtpadlcllcmodaaaGreatG36
/- law16: LegSays: how frames tell messages; plain Lean. -/
namespace Go.Proofs.YtpadlcllcmodaaaGreat
open Go.RowKit
set_option linter.unusedSimpArgs false
set_option linter.unusedVariables false

def allOf (k : Lk) (said : List Ev) : List Fr := said.flatMap fun e => cuts k e.op e.data
theorem allOf_snoc (k : Lk) (said : List Ev) (e : Ev) : allOf k (said ++ [e]) = allOf k said ++ cuts k e.op e.data := by
  unfold allOf
  rw [List.flatMap_append]
  simp
/-- What may be sent. -/
def okS (k : Lk) (e : Ev) : Prop := (e.op = 1 ∨ e.op = 2) ∧ e.code = 0 ∧ e.data.size ≤ k.message
/-- How far the messages' frames are told: j whole ones, and r frames of the next. -/
structure Tell (k : Lk) (said : List Ev) (P : List Fr) (j r : Nat) (data : ByteArray) : Prop where
  jle : j ≤ said.length
  whole : j = said.length → r = 0 ∧ data = ⟨#[]⟩ ∧ P = allOf k said
  part : ∀ (h : j < said.length), r < (cuts k said[j].op said[j].data).length ∧ P = allOf k (said.take j) ++ (cuts k said[j].op said[j].data).take r ∧ data = said[j].data.extract 0 (r * k.frame)
structure Kf (k : Lk) : Prop where
  lo : 1 ≤ k.frame
  hi : k.frame ≤ 256
  msg : k.message ≤ 256
theorem cuts_facts {k : Lk} (hk : Kf k) {op : Int} {s : ByteArray} (hs : s.size ≤ k.message) : ∃ n : Nat, (cuts k op s).length = n ∧ 1 ≤ n ∧ s.size ≤ n * k.frame ∧ cuts k op s = cutFs op s k.frame n := by
  have := hk.msg
  obtain ⟨n, h1, -, h3, -, h5, -, h7⟩ := cuts_len k hk.lo (by have := hk.hi; omega) s (by omega)
  refine ⟨n, ?_, h3, h5, ?_⟩
  · rw [← h7]
    simp [cuts, cutFs]
  · unfold cuts
    rw [h1]
    rfl
theorem ext0 (s : ByteArray) : s.extract 0 0 = ⟨#[]⟩ := by
  apply sb_inj
  rw [sb_extract, List.take_zero, List.drop_zero]
  rfl
theorem Tell.new {k : Lk} (hk : Kf k) {said : List Ev} (hs : ∀ e ∈ said, okS k e) : Tell k said [] 0 0 ⟨#[]⟩ := by
  refine ⟨Nat.zero_le _, fun h => ⟨rfl, rfl, ?_⟩, fun h => ⟨?_, rfl, ?_⟩⟩
  · rw [List.eq_nil_of_length_eq_zero h.symm]
    rfl
  · obtain ⟨n, h1, h2, -, -⟩ := cuts_facts hk (op := said[0].op) (hs said[0] (List.getElem_mem h)).2.2
    omega
  · rw [Nat.zero_mul, ext0]
theorem allOf_len (k : Lk) (said : List Ev) (j : Nat) (h : j ≤ said.length) : (allOf k (said.take j)).length ≤ (allOf k said).length := by
  conv => rhs; rw [← List.take_append_drop j said]
  unfold allOf
  rw [List.flatMap_append, List.length_append]
  omega
theorem allOf_take (k : Lk) (said : List Ev) (j : Nat) (h : j < said.length) : allOf k (said.take (j + 1)) = allOf k (said.take j) ++ cuts k said[j].op said[j].data := by
  rw [← List.take_append_getElem h, allOf_snoc]
/-- One frame more. -/
theorem Tell.next {k : Lk} (hk : Kf k) {said : List Ev} (hs : ∀ e ∈ said, okS k e) {P : List Fr} {j r : Nat} {data : ByteArray} (h : Tell k said P j r data) {f : Fr} {Q : List Fr} (hP : P ++ [f] ++ Q = allOf k said) :
    ∃ hj : j < said.length, (f.op = 0 ↔ 0 < r) ∧ f.data.size ≤ k.frame ∧ (data ++ f.data).size ≤ 256 ∧
      (f.fin = true → data ++ f.data = said[j].data ∧ Tell k said (P ++ [f]) (j + 1) 0 ⟨#[]⟩) ∧ (f.fin = false → Tell k said (P ++ [f]) j (r + 1) (data ++ f.data)) := by
  have hj : j < said.length := by
    rcases Nat.lt_or_ge j said.length with h2 | h2
    · exact h2
    · obtain ⟨-, -, h3⟩ := h.whole (Nat.le_antisymm h.jle h2)
      rw [h3] at hP
      have := congrArg List.length hP
      simp at this
  obtain ⟨h1, h2, h3⟩ := h.part hj
  have hsj := hs said[j] (List.getElem_mem hj)
  obtain ⟨n, n1, n2, n3, n4⟩ := cuts_facts hk (op := said[j].op) hsj.2.2
  have hall : allOf k said = allOf k (said.take j) ++ (cuts k said[j].op said[j].data ++ allOf k (said.drop (j + 1))) := by
    conv => lhs; rw [← List.take_append_drop j said, List.drop_eq_getElem_cons hj]
    unfold allOf
    rw [List.flatMap_append, List.flatMap_cons]
  obtain ⟨C, hC⟩ : ∃ C, C = cuts k said[j].op said[j].data := ⟨_, rfl⟩
  rw [← hC] at h1 h2 n1 n4 hall
  have hf : f = C[r] := by
    rw [hall, h2, List.append_assoc, List.append_assoc] at hP
    have := List.append_cancel_left hP
    have h4 : (C.take r ++ ([f] ++ Q))[r]? = (C ++ allOf k (said.drop (j + 1)))[r]? := by rw [this]
    rw [List.getElem?_append_right (by rw [List.length_take]; omega), List.length_take, Nat.min_eq_left (by omega), Nat.sub_self] at h4
    rw [List.getElem?_append_left h1, List.getElem?_eq_getElem h1] at h4
    injection h4
  have hfc : f = cutF said[j].op said[j].data k.frame n r := by
    rw [hf]
    simp only [n4, cutFs, List.getElem_map, List.getElem_range]
  have hrn : r < n := by omega
  have hfo : f.op = if r = 0 then said[j].op else 0 := by rw [hfc]; rfl
  have hff : f.fin = decide (r + 1 = n) := by rw [hfc]; rfl
  have hfd : f.data = said[j].data.extract (r * k.frame) (min (r * k.frame + k.frame) said[j].data.size) := by rw [hfc]; rfl
  have hdd : data ++ f.data = said[j].data.extract 0 ((r + 1) * k.frame) := by
    rw [h3, hfd, Nat.succ_mul]
    apply sb_inj
    rw [sb_append, sb_extract, sb_extract, sb_extract, List.drop_zero, List.drop_zero]
    have hm : (sb said[j].data).take (min (r * k.frame + k.frame) said[j].data.size) = (sb said[j].data).take (r * k.frame + k.frame) := by
      rw [← sb_length]
      exact (List.take_eq_take_iff.2 (by omega))
    rw [hm]
    conv => rhs; rw [← List.take_append_drop (r * k.frame) ((sb said[j].data).take (r * k.frame + k.frame)), List.take_take, Nat.min_eq_left (by omega)]
  have hsz : (data ++ f.data).size ≤ 256 := by
    rw [hdd, ByteArray.size_extract]
    have := hsj.2.2
    have := hk.msg
    omega
  have htk : P ++ [f] = allOf k (said.take j) ++ C.take (r + 1) := by
    rw [h2, List.append_assoc, hf, List.take_append_getElem h1]
  refine ⟨hj, ?_, ?_, hsz, fun hfin => ?_, fun hfin => ?_⟩
  · rw [hfo]
    split
    · rename_i h0
      have := hsj.1
      omega
    · omega
  · rw [hfd, ByteArray.size_extract]
    omega
  · rw [hff] at hfin
    have hrn2 := of_decide_eq_true hfin
    have hCt : C.take (r + 1) = C := List.take_of_length_le (by omega)
    refine ⟨?_, by omega, fun he => ⟨rfl, rfl, ?_⟩, fun h5 => ⟨?_, ?_, ?_⟩⟩
    · rw [hdd, hrn2]
      exact ext_all _ _ n3
    · rw [htk, hCt, hC, ← allOf_take k said j hj, he, List.take_length]
    · obtain ⟨n', q1, q2, -, -⟩ := cuts_facts hk (op := said[j + 1].op) (hs said[j + 1] (List.getElem_mem h5)).2.2
      omega
    · rw [htk, hCt, hC, ← allOf_take k said j hj, List.take_zero, List.append_nil]
    · rw [Nat.zero_mul, ext0]
  · rw [hff] at hfin
    have hrn2 := of_decide_eq_false hfin
    refine ⟨h.jle, fun he => absurd he (by omega), fun h5 => ⟨by rw [← hC]; omega, by rw [htk, hC], hdd⟩⟩
/-- At the end. -/
theorem Tell.over {k : Lk} (hk : Kf k) {said : List Ev} (hs : ∀ e ∈ said, okS k e) {P : List Fr} {j r : Nat} {data : ByteArray} (h : Tell k said P j r data) (hlow : (allOf k said.dropLast).length ≤ P.length) :
    said.length ≤ j + 1 ∧ (P = allOf k said → j = said.length) ∧ (∀ hj : j < said.length, data.size ≤ said[j].data.size ∧ said[j].data.extract 0 data.size = data) := by
  have hlt : ∀ hj : j < said.length, P.length < (allOf k (said.take (j + 1))).length := fun hj => by
    obtain ⟨h1, h2, -⟩ := h.part hj
    rw [h2, allOf_take k said j hj, List.length_append, List.length_append, List.length_take]
    omega
  refine ⟨?_, fun he => ?_, fun hj => ?_⟩
  · rcases Nat.lt_or_ge j said.length with hj | hj
    · have h1 := hlt hj
      rcases Nat.lt_or_ge (j + 1) said.length with h2 | h2
      · have h3 : said.take (j + 1) = said.dropLast.take (j + 1) := by rw [List.dropLast_eq_take, List.take_take, Nat.min_eq_left (by omega)]
        have h4 := allOf_len k said.dropLast (j + 1) (by rw [List.length_dropLast]; omega)
        rw [← h3] at h4
        omega
      · exact h2
    · omega
  · rcases Nat.lt_or_ge j said.length with hj | hj
    · have h1 := hlt hj
      have h2 := allOf_len k said (j + 1) hj
      rw [he] at h1
      omega
    · exact Nat.le_antisymm h.jle hj
  · obtain ⟨-, -, h3⟩ := h.part hj
    have hz : data.size = min (r * k.frame) said[j].data.size := by rw [h3, ByteArray.size_extract]; omega
    refine ⟨by omega, ?_⟩
    conv => rhs; rw [h3]
    rw [hz]
    apply sb_inj
    rw [sb_extract, sb_extract, List.drop_zero, List.drop_zero]
    rw [← sb_length]
    exact List.take_eq_take_iff.2 (by omega)
/-- What a frame of a side's history tells. -/
theorem filter_take_succ (H : List Fr) (i : Nat) (hi : i < H.length) : (H.take (i + 1)).filter isD = (H.take i).filter isD ++ (if isD H[i] = true then [H[i]] else []) := by
  rw [← List.take_append_getElem hi, List.filter_append]
  congr 1
  by_cases h : isD H[i] = true
  · rw [if_pos h, List.filter_cons_of_pos h]
    rfl
  · rw [if_neg h, List.filter_cons_of_neg h]
    rfl
theorem filter_take_pre (H : List Fr) (i : Nat) (hi : i < H.length) (hd : isD H[i] = true) : ∃ Q, (H.take i).filter isD ++ [H[i]] ++ Q = H.filter isD := by
  refine ⟨(H.drop (i + 1)).filter isD, ?_⟩
  conv => rhs; rw [← List.take_append_drop (i + 1) H, List.filter_append, filter_take_succ H i hi, if_pos hd]
/-- All that is known once all is out. -/
structure Said (k : Lk) (said : List Ev) (sent : Bool) (H : List Fr) : Prop where
  ok : ∀ f ∈ H, okC f ∨ okD f
  all : ∃ R, H.filter isD ++ R = allOf k said ∧ (sent = false → R = [])
  low : (allOf k said.dropLast).length ≤ (H.filter isD).length
  end_ : ∀ i (hi : i < H.length), H[i].op = 8 → i + 1 = H.length ∧ sent = true
theorem SaysI.over {k : Lk} {d0 : Int} {S : List Int} {said : List Ev} {n : Nat} {L : Lg} (h : SaysI k d0 S (allOf k said) (allOf k said.dropLast).length n L) (hq : L.quiet = true) (hl : S.length ≤ maxLen) :
    ∃ H, scan k.masks 65536 S = (mfr k.masks H d0, [], 0) ∧ Said k said L.sent H := by
  obtain ⟨H, hd, hz, hst⟩ := h.led
  obtain ⟨q1, q2, q3, q4⟩ := Lg.quiet_nil hq
  refine ⟨H, hd.final q1 q2 hl, fun f hf => ?_, ?_, hd.low, ?_⟩
  · rcases hd.ok f hf with h | h
    · exact .inl h
    · exact .inr (hd.alld f h)
  · obtain ⟨R, hR, hR0⟩ := hd.data
    rw [q4, List.append_nil] at hR
    exact ⟨R, hR, hR0⟩
  · intro i hi h8
    cases hs : L.sent with
    | false => exact absurd h8 (hd.none8 hs _ (List.mem_append_left _ (List.getElem_mem hi)))
    | true =>
      obtain ⟨-, Z, d, hZ, hz8, -⟩ := hd.one8 hs
      rw [q3, List.append_nil] at hZ
      subst hZ
      refine ⟨?_, rfl⟩
      rw [List.length_append] at hi ⊢
      simp at hi ⊢
      rcases Nat.lt_or_ge i Z.length with h2 | h2
      · rw [List.getElem_append_left h2] at h8
        exact absurd h8 (hz8 _ (List.getElem_mem h2))
      · omega
end Go.Proofs.YtpadlcllcmodaaaGreat
/- Slice expressions of rows that came in: the new address under a name. -/
namespace Go.Proofs.YtpadlcllcmodaaaGreat
open Go.RowKit
set_option linter.unusedSimpArgs false
set_option linter.unusedVariables false

theorem Rd.take {w : World} {A : Option Addr} {xs : List Value} (h : Rd w A xs) (j : Nat) : Rd w A (xs.take j) := fun hx => by
  obtain ⟨g, off, hA, hg, hc⟩ := h (fun he => hx (by rw [he]; simp))
  exact ⟨g, off, hA, hg, fun i u hu => by rw [List.getElem?_take] at hu; split at hu; exact hc i u hu; cases hu⟩
theorem Rd.drop {w : World} {g off : Nat} {xs : List Value} (h : Rd w (some ⟨g, off, none⟩) xs) (j : Nat) : Rd w (some ⟨g, off + j, none⟩) (xs.drop j) := fun hx => by
  obtain ⟨g', off', hA, hg, hc⟩ := h (fun he => hx (by rw [he]; simp))
  injection hA with hA
  injection hA with h1 h2
  subst h1 h2
  exact ⟨g, off + j, rfl, hg, fun i u hu => by rw [List.getElem?_drop] at hu; rw [Nat.add_assoc]; exact hc _ u hu⟩
theorem Rd.none_nil {w : World} {xs : List Value} (h : Rd w none xs) : xs = [] := by
  rcases xs with _ | ⟨u, l⟩
  · rfl
  · obtain ⟨g, off, hA, _⟩ := h (by simp)
    cases hA
section
variable {T E : TypeId} (hT : Tryz.prog.underlying T = some (.slice E)) {sz : Nat} (hsz : ∀ W, (sizeOf E).run Tryz.prog W = .ok sz W)
include hT hsz
theorem sl_any {w : World} {A : Option Addr} {xs : List Value} {n c : Nat} (h : Rd w A xs) (hx : xs.length = n * sz) (hc : n ≤ c) (a b : Int) (k m : Nat) (ha : a = k) (hb : b = m) (hkm : k ≤ m) (hm : m ≤ n) :
    ∃ A', (∀ W, (Instr.slice T (.slice A n c) (some (.int .i64 a)) (some (.int .i64 b)) none).run Tryz.prog W = .ok (.slice A' (m - k) (c - k)) W) ∧ (m = n → ∀ W, (Instr.slice T (.slice A n c) (some (.int .i64 a)) none none).run Tryz.prog W = .ok (.slice A' (n - k) (c - k)) W) ∧
      Rd w A' ((xs.take (m * sz)).drop (k * sz)) := by
  subst ha hb
  have he : Tryz.prog.elem T = E := by simp [Program.elem, hT]
  have hT' : Tryz.prog.underlying T = some (.slice (Tryz.prog.elem T)) := by rw [he]; exact hT
  by_cases hck : c = k
  · refine ⟨A, fun W => ?_, fun hmn W => ?_, ?_⟩
    · rw [run_slice_lh W T A n c hT' .i64 .i64 k m (by omega) (by omega) (by omega), he, hsz]
      simp [sliced, hck]
    · rw [run_slice_l W T A n c hT' .i64 k (by omega) (by omega), he, hsz]
      simp [sliced, hck]
    · have hl : ((xs.take (m * sz)).drop (k * sz)) = [] := List.drop_of_length_le (by rw [List.length_take, hx]; have := Nat.mul_le_mul_right sz (show m ≤ k by omega); omega)
      rw [hl]
      exact fun h => absurd rfl h
  · rcases A with _ | ⟨g, off, spot⟩
    · refine ⟨none, fun W => ?_, fun hmn W => ?_, ?_⟩
      · rw [run_slice_lh W T none n c hT' .i64 .i64 k m (by omega) (by omega) (by omega), he, hsz]
        simp [sliced]
      · rw [run_slice_l W T none n c hT' .i64 k (by omega) (by omega), he, hsz]
        simp [sliced]
      · have := h.none_nil
        subst this
        intro hne
        simp at hne
    · refine ⟨some ((⟨g, off, spot⟩ : Addr).add (k * sz)), fun W => ?_, fun hmn W => ?_, ?_⟩
      · rw [run_slice_lh W T _ n c hT' .i64 .i64 k m (by omega) (by omega) (by omega), he, hsz]
        simp [sliced, hck]
      · rw [run_slice_l W T _ n c hT' .i64 k (by omega) (by omega), he, hsz]
        simp [sliced, hck]
      · intro hne
        have h1 : xs ≠ [] := fun he => hne (by rw [he]; simp)
        obtain ⟨g', off', hA, _⟩ := h h1
        injection hA with hA
        injection hA with _ _ h3
        subst h3
        rw [add_plain]
        exact (h.take _).drop _ hne
end
theorem size_fr (w : World) : (sizeOf 61).run Tryz.prog w = .ok 8 w := by kernel_rfl
end Go.Proofs.YtpadlcllcmodaaaGreat
/- law16: LegSays: the walk. -/
namespace Go.Proofs.YtpadlcllcmodaaaGreat
open Go.RowKit
set_option linter.unusedSimpArgs false
set_option linter.unusedVariables false

theorem LgAt.touch {w0 w w' : World} {g : Nat} {k : Lk} {L : Lg} {S : Nat → Prop} (h : LgAt w0 w g k L) (t : Touch S w w') (hS : ∀ b, S b → ∃ t cs, Blk w b t cs ∧ Outer t) (h0 : ∀ b, S b → w0.heap.size ≤ b) : LgAt w0 w' g k L := by
  obtain ⟨V, i, f, t0⟩ := h
  refine ⟨V, i.touch t fun b hb hs => ?_, f, t0.then_new t fun i hi => .inl (h0 i hi)⟩
  obtain ⟨t, cs, hc, ho⟩ := hS b hs
  exact i.outer hc ho hb
theorem LgAt.grown {w0 w w' : World} {g : Nat} {k : Lk} {L : Lg} (h : LgAt w0 w g k L) {base : Nat} {e : TypeId} {size n : Nat} {v : Value} {xs : List Value} (ho : w.ownsRow base e size v n xs) (he : Outer e) (hb : w0.heap.size ≤ base) (hg : w.grownBy w' v.ownBlock) : LgAt w0 w' g k L :=
  h.touch (S := fun b => v.ownBlock = some b) ((Touch.refl _ _).grown hg (fun q hq _ => hq)) (fun b hb => by
    obtain ⟨cs, hc⟩ := own_type ho hb
    exact ⟨e, cs, hc, he⟩) (fun b hv => by have := own_base ho hv; omega)
theorem evs_take (l : List Ev) (j : Nat) : evCells (l.take j) = (evCells l).take (j * 3) := by
  induction l generalizing j with
  | nil => simp [evCells]
  | cons e l ih =>
    rcases j with _ | j
    · simp [evCells]
    · have := ih j
      unfold evCells at this ⊢
      rw [List.take_succ_cons, List.flatMap_cons, List.flatMap_cons, this, Nat.succ_mul]
      rw [show j * 3 + 3 = (j * 3) + e.cs.length from rfl, Nat.add_comm, List.take_length_add_append]

set_option maxHeartbeats 12800000 in
set_option maxRecDepth 100000 in
theorem says16_row (w : World) (xa xb xc : Int) (gx : bytesIn [xa, xb, xc]) (mk : Bool) (draw : Int) (gd : (Lit.int .u32 draw).wf = true) (A : Option Addr) (ls : List Act1) (c : Nat) (hr : Rd w A (ls.flatMap Act1.cl)) (hg : ∀ x ∈ ls, x.good) (hlc : ls.length ≤ c) (hcc : c ≤ maxLen) :
    Calls Tryz.prog 4 #[.agg #[.int .u8 xa, .int .u8 xb, .int .u8 xc], .bool mk, .int .u32 draw, .slice A ls.length c] w fun e w' => e = .returned (.bool true) ∧ Touch NoS w w' := by
  obtain ⟨ma, rfl, hma⟩ := u8_nat (gx xa (by simp))
  obtain ⟨mb, rfl, hmb⟩ := u8_nat (gx xb (by simp))
  obtain ⟨mc, rfl, hmc⟩ := u8_nat (gx xc (by simp))
  have HR := Lib.hid hr
  have HG := Lib.hid hg
  obtain ⟨n, hn⟩ : ∃ n, n = ls.length := ⟨_, rfl⟩
  rw [← hn] at hlc ⊢
  have HN := Lib.hid hn.symm
  have hnm : n ≤ maxLen := by omega
  unfold maxLen at hnm
  clear hr hg hn hcc gx
  go_enter Tryz.func4, Tryz.ntmps4
  go_wp2_with fail
  refine (l_cfg ma mb mc hma hmb hmc _).mono ?_
  rintro e w1 ⟨b, rfl, hb, hbr, ht⟩
  have HT1 := Lib.hid (((Touch.refl NoS w).alloc (.cells #[.int .u8 ma, .int .u8 mb, .int .u8 mc] 45)).trans ht)
  have hsz1 := HT1.out.size
  have HBR := Lib.hid hbr
  clear ht hbr
  unfold cfgV
  obtain ⟨M, hM⟩ : ∃ M, M = 1 + ma := ⟨_, rfl⟩
  obtain ⟨F, hF⟩ : ∃ F, F = 1 + mb := ⟨_, rfl⟩
  obtain ⟨O, hO⟩ : ∃ O, O = 1 + mc := ⟨_, rfl⟩
  rw [← hM, ← hF, ← hO]
  have hM1 : 1 ≤ M ∧ M ≤ 256 := by omega
  have hF1 : 1 ≤ F ∧ F ≤ 256 := by omega
  have hO1 : 1 ≤ O ∧ O ≤ 256 := by omega
  clear hM hF hO hma hmb hmc
  go_wp2_with fail
  obtain ⟨w2, hw2⟩ : ∃ w2, w2 = w1.alloc (.cells (cfgV b M F O) 25) := ⟨_, rfl⟩
  obtain ⟨gc, hgc⟩ : ∃ g, g = w1.heap.size := ⟨_, rfl⟩
  have hbc : Blk w2 gc 25 (cfgV b M F O) := by rw [hw2, hgc]; exact Blk.new _ _ _
  have HT2 : Hid (Touch NoS w w2) := by rw [hw2]; exact HT1.out.alloc _
  have HBR2 : Hid (Blk w2 b 67 #[.string ⟨#[47]⟩, .string ⟨#[]⟩, .string ⟨#[120]⟩]) := by rw [hw2]; exact HBR.out.alloc _
  have HBC := Lib.hid hbc
  have HNEW := Lib.hid (lg_new b M F O hM1.1 (by omega) hF1.1 (by omega) hO1.1 (by omega) mk draw w2 HBR2.out)
  unfold cfgV at hw2 HNEW
  rw [← hw2, ← hgc]
  clear hw2 hgc hbc HBR HBR2 HT1 hsz1 hb
  refine HNEW.out.mono ?_
  rintro e w3 ⟨g, k, rfl, hk1, hk2, hk3, hk4, hL⟩
  have HK1 := Lib.hid hk1
  have HK2 := Lib.hid hk2
  have HK3 := Lib.hid hk3
  have HK4 := Lib.hid hk4
  have HL3 := Lib.hid hL
  clear hL hk1 hk2 hk3 hk4 HNEW
  go_wp2_with fail
  refine (aw16 _).mono ?_
  rintro e w4 ⟨rfl, ht⟩
  have HL4 := Lib.hid (HL3.out.no ht)
  clear ht HL3
  go_wp2_with fail
  obtain ⟨ie, hi, hz0, hz1, hz2⟩ := info_parts info_ev
  have HK : Hid (Kf k) := ⟨by rw [HK2.out]; exact hF1.1, by rw [HK2.out]; exact hF1.2, by rw [HK1.out]; exact hM1.2⟩
  have HE0 : Hid ((w4.alloc (.cells #[] 52)).ownsRow w2.heap.size 52 3 (.slice (some ⟨w4.heap.size, 0, none⟩) 0 0) 0 (evCells [])) := ⟨rfl, .inr ⟨w4.heap.size, 0, #[], rfl, HL4.out.old.size, Blk.new w4 52 #[], Nat.le_refl _, by simp [maxLen], rfl, rfl⟩⟩
  have HL4' : Hid (LgAt w2 (w4.alloc (.cells #[] 52)) g k (Lg.new M draw)) := HL4.out.no ((Touch.refl _ _).alloc _)
  clear HL4
  go_wp2_with fail
  go_loopw [12, 13, 14] (fun tv sv iv wr => ∃ (i : Nat) (L : Lg) (s : ByteArray) (said : List Ev) (As : Option Addr) (cs : Nat), i ≤ n ∧ i ≤ 30 ∧ iv = .int .i64 i ∧ sv = .string s ∧ s.size ≤ 256 * i ∧ tv = .slice As said.length cs ∧ said.length ≤ i ∧
      wr.ownsRow w2.heap.size 52 3 (.slice As said.length cs) said.length (evCells said) ∧ LgAt w2 wr g k L ∧ Hid (L.okb k (700 * i)) ∧ Hid (SaysI k draw (sb s) (allOf k said) (allOf k said.dropLast).length i L) ∧ Hid (∀ e ∈ said, okS k e)) (fun _ _ iv _ => n - (intOf iv).toNat)
  case atStart =>
    exact ⟨0, Lg.new M draw, ⟨#[]⟩, [], _, _, Nat.zero_le _, by omega, rfl, rfl, Nat.zero_le _, rfl, Nat.zero_le _, HE0.out, HL4'.out, by rw [← HK1.out]; exact Lg.new_okb k draw _, SaysI.new k M hM1.1 (by omega) draw, fun e he => by cases he⟩
  case round =>
    obtain ⟨i, L, s, said, As, cs, hin, hi30, rfl, rfl, hsz, rfl, hsl, ho, hL, hok, hsi, hos⟩ := hrel
    have HL := Lib.hid hL
    have HO := Lib.hid ho
    have HOK : Hid (L.okb k (700 * i)) := hok
    have HSI : Hid (SaysI k draw (sb s) (allOf k said) (allOf k said.dropLast).length i L) := hsi
    have HOS : Hid (∀ e ∈ said, okS k e) := hos
    clear hL ho hok hsi hos HL4' HE0
    have hss : s.size ≤ 7680 := by omega
    obtain ⟨bq, hbq⟩ : ∃ bq, bq = (decide (i < n) && decide (i < 30)) := ⟨_, rfl⟩
    obtain ⟨wq, hwq⟩ : ∃ wq : World, wq = wr := ⟨_, rfl⟩
    subst hwq
    go_upto_region 7 with (fail)
    go_cut [56] (fun v wx => v = .bool bq ∧ wx = wq)
    case first =>
      by_cases hlt : i < n
      · by_cases hlt2 : i < 30
        · rw [decide_eq_true hlt, decide_eq_true hlt2] at hbq
          go_wp2_with fail
          go_meet
          exact ⟨by rw [hbq]; first | rfl | (simp; omega), rfl⟩
        · rw [decide_eq_true hlt, decide_eq_false hlt2] at hbq
          have hge : ¬ ((i : Int) < 30) := by omega
          go_wp2_with fail
          go_meet
          exact ⟨by rw [hbq]; first | rfl | (simp; omega), rfl⟩
      · rw [decide_eq_false hlt] at hbq
        have hge : ¬ ((i : Int) < n) := by omega
        go_wp2_with fail
        go_meet
        exact ⟨by rw [hbq]; first | rfl | (simp; omega), rfl⟩
    case rest =>
    obtain ⟨rfl, hwx⟩ := hcut
    obtain ⟨wr, rfl⟩ : ∃ w : World, w = wc := ⟨_, rfl⟩
    subst hwx
    cases bq with
    | true =>
      rw [eq_comm, Bool.and_eq_true, decide_eq_true_eq, decide_eq_true_eq] at hbq
      obtain ⟨hlt, hlt2⟩ := hbq
      have hil : i < ls.length := by rw [HN.out]; exact hlt
      obtain ⟨ga, oa, rfl, hga, a0, a1, a2, a3, a4⟩ := act_cells (HR.out.touch_no (HT2.out.trans HL.out.old)) i hil
      have hgd := HG.out ls[i] (List.getElem_mem hil)
      obtain ⟨x, hx⟩ : ∃ x, x = ls[i] := ⟨_, rfl⟩
      rw [← hx] at a0 a1 a2 a3 a4 hgd
      have HFEW := Lib.hid (fun W => l_few x hgd W)
      obtain ⟨kind, op, code, na, sa⟩ := x
      simp only at a0 a1 a2 a3 a4 HFEW
      have HGD : Hid (sa.size ≤ maxLen) := hgd
      clear hx hgd
      go_wp2_with fail
      refine (HFEW.out _).mono ?_
      rintro e w5 ⟨rfl, ht5⟩
      have hb5 := (Blk.new _ 40 #[.int .i64 kind, .int .i64 op, .int .i64 code, .int .i64 na, .string sa]).touch ht5 (fun h => h)
      have hta : Touch NoS wr w5 := ((Touch.refl NoS wr).alloc (.cells #[.int .i64 kind, .int .i64 op, .int .i64 code, .int .i64 na, .string sa] 40)).trans ht5
      have HL5 := Lib.hid (HL.out.no hta)
      have HO5 := Lib.hid (own_no HO.out hta)
      have b0 := hb5.cell 0
      have b1 := hb5.cell 1
      have b2 := hb5.cell 2
      have b3 := hb5.cell 3
      have b4 := hb5.cell 4
      have bl := hb5.lt
      simp at b0 b1 b2 b3 b4
      obtain ⟨gx, hgx⟩ : ∃ g, g = wr.heap.size := ⟨_, rfl⟩
      rw [← hgx] at b0 b1 b2 b3 b4 bl hb5 ⊢
      have HB5 := Lib.hid hb5
      clear ht5 hb5 hta HL HO HFEW a0 a1 a2 a3 a4 hga hgx
      by_cases hfew : sa.size ≤ 300
      · rw [decide_eq_true hfew]
        have hcl := HOK.out.ctl
        have hpl := HOK.out.part
        have HPL : Hid ((L.part.length : Int) ≤ 269) := by
          show (L.part.length : Int) ≤ 269
          unfold most16 at hpl
          rw [HK1.out] at hpl
          omega
        have HCL := Lib.hid hcl
        clear hcl hpl
        by_cases h0 : kind = 0
        · subst h0
          obtain ⟨w6, cp, hconv, ht6, hrd6, -, -, -⟩ := conv_ex w5 sa HGD.out
          have HL6 := Lib.hid (HL5.out.no ht6)
          have HO6 := Lib.hid (own_no HO5.out ht6)
          have HRD6 := Lib.hid hrd6
          clear ht6 hrd6
          go_wp2_with fail
          refine (lg_feed HL6.out (by rw [HK1.out]; omega) HOK.out.ok (sb sa) _ _ _ (sb_length sa) HRD6.out (sb_in sa) (by have := HPL.out; have := HCL.out; omega)).mono ?_
          rintro e w7 ⟨A7, c7, rfl, -, hL7, hkp⟩
          have HFIN : Hid (s.size ≤ 256 * (i + 1) ∧ said.length ≤ i + 1 ∧ w7.ownsRow w2.heap.size 52 3 (.slice As said.length cs) said.length (evCells said) ∧ LgAt w2 w7 g k (L.feed k (sb sa)).1 ∧ (L.feed k (sb sa)).1.okb k (700 * (i + 1)) ∧ SaysI k draw (sb s) (allOf k said) (allOf k said.dropLast).length (i + 1) (L.feed k (sb sa)).1 ∧ (∀ e ∈ said, okS k e)) :=
            ⟨by omega, by omega, hkp.own _ _ _ _ _ _ HO6.out (by decide), hL7, (Lg.feed_okb k _ L HOK.out (sb sa) (sb_in sa) (by rw [sb_length]; have := HPL.out; omega)).mono (by rw [sb_length]; have := HPL.out; omega), (HSI.out.feed (sb sa)).mono (Nat.le_succ i), HOS.out⟩
          clear hL7 hkp
          go_wp2_with fail
          go_roundw
          · exact ⟨i + 1, _, _, said, As, cs, by omega, by omega, by go_num, rfl, HFIN.out.1, rfl, HFIN.out.2⟩
          · simp [intOf]; omega
        by_cases h1 : kind = 1
        · subst h1
          obtain ⟨hs1, hs2⟩ := HSI.out.send op sa HK.out.lo HK.out.hi HK.out.msg
          have HS1 := Lib.hid hs1
          have HS2 := Lib.hid hs2
          clear hs1 hs2
          go_wp2_with fail
          refine (lg_send HL5.out op 0 sa HGD.out (by rw [HK1.out]; omega) (by rw [HK2.out]; omega) (by rw [HK2.out]; omega)).mono ?_
          rintro e w7 ⟨rfl, hL7, hkp⟩
          have hb7 := hkp.blk _ _ _ HB5.out (by decide)
          have x1 := hb7.cell 1
          have x4 := hb7.cell 4
          have xl := hb7.lt
          simp at x1 x4
          have HO7 := Lib.hid (hkp.own _ _ _ _ _ _ HO5.out (by decide))
          have HL7 := Lib.hid hL7
          have HOK7 := Lib.hid ((Lg.send_like k L op sa).okb (n := 700 * i) (m := 700 * (i + 1)) HOK.out (by have := Lg.send_ctl k L op sa; have := HCL.out; omega))
          obtain ⟨L7, hL7e⟩ : ∃ x, x = (L.send k op sa).1 := ⟨_, rfl⟩
          rw [← hL7e] at HS1 HS2 HL7 HOK7
          clear hL7 hkp hb7 b0 b1 b2 b3 b4 bl hL7e
          cases hok7 : (L.send k op sa).2 with
          | true =>
            obtain ⟨hop, hsm, hsi7⟩ := HS1.out hok7
            have hw7 : w2.heap.size ≤ w7.heap.size := HL7.out.old.size
            have HEV : Hid (∀ u ∈ (Ev.cs ⟨op, 0, sa⟩), u.oneCell' = true) := by
              have := evCells_one [(⟨op, 0, sa⟩ : Ev)]
              rw [evCells_single] at this
              exact this
            have HRN : Hid (Rd (w7.alloc (.cells (Ev.cs ⟨op, 0, sa⟩).toArray 52)) (some ⟨w7.heap.size, 0, none⟩) (Ev.cs ⟨op, 0, sa⟩)) := Rd.new w7 _ 52 (0, 0)
            have hty : Touch NoS w7 (w7.alloc (.cells (Ev.cs ⟨op, 0, sa⟩).toArray 52)) := (Touch.refl _ _).alloc _
            have HO7' := Lib.hid (own_no HO7.out hty)
            have HL7' := Lib.hid (HL7.out.no hty)
            have hsl30 : said.length ≤ 30 := by omega
            have HSI7 : Hid (SaysI k draw (sb s) (allOf k (said ++ [⟨op, 0, sa⟩])) (allOf k (said ++ [(⟨op, 0, sa⟩ : Ev)]).dropLast).length (i + 1) L7) := by
              show SaysI k draw (sb s) (allOf k (said ++ [⟨op, 0, sa⟩])) (allOf k (said ++ [(⟨op, 0, sa⟩ : Ev)]).dropLast).length (i + 1) L7
              rw [allOf_snoc, List.dropLast_concat]
              exact hsi7.mono (Nat.le_succ i)
            have HOS7 : Hid (∀ e ∈ said ++ [(⟨op, 0, sa⟩ : Ev)], okS k e) := by
              intro e he
              rcases List.mem_append.1 he with he | he
              · exact HOS.out e he
              · simp at he
                rw [he]
                exact ⟨hop, rfl, hsm⟩
            clear hok7 hop hsm hsi7 hty HO7 HL7 HS1 HS2
            go_wp2_with (at_builtin; refine wpList_app_row _ rfl (.tmp 84) (.tmp 90) 47 rfl w2.heap.size 52 ie _ 3 32 Tryz.underlying47 hi hz0 hz1 hz2 rfl (by decide) (.slice As said.length cs) said.length (evCells said) rfl HO7'.out (some ⟨w7.heap.size, 0, none⟩) 1 1 (Ev.cs ⟨op, 0, sa⟩) rfl rfl HRN.out HEV.out (by unfold maxLen; omega) (by omega) (by simp; omega) ?_)
            intro v8 w8 ho8 hgr _
            rw [← evCells_single ⟨op, 0, sa⟩, ← evCells_append, show said.length + 1 = (said ++ [(⟨op, 0, sa⟩ : Ev)]).length from by simp] at ho8
            have HL8 := Lib.hid (HL7'.out.grown HO7'.out (by decide) (Nat.le_refl _) hgr)
            obtain ⟨A8, c8, rfl, _, _, _, _, _⟩ := own_cases ho8
            have HO8 := Lib.hid ho8
            clear ho8 hgr HO7' HL7'
            go_wp2_with fail
            go_roundw
            · refine ⟨i + 1, L7, s, said ++ [(⟨op, 0, sa⟩ : Ev)], A8, c8, by omega, by omega, by go_num, rfl, by omega, ?_, ?_, HO8.out, HL8.out, HOK7.out, HSI7.out, HOS7.out⟩
              · first | rfl | simp
              · rw [List.length_append]; simp; omega
            · simp [intOf]; omega
          | false =>
            have hL2 := HS2.out hok7
            subst hL2
            clear hok7
            have HFIN : Hid (s.size ≤ 256 * (i + 1) ∧ said.length ≤ i + 1 ∧ w7.ownsRow w2.heap.size 52 3 (.slice As said.length cs) said.length (evCells said) ∧ LgAt w2 w7 g k L7 ∧ L7.okb k (700 * (i + 1)) ∧ SaysI k draw (sb s) (allOf k said) (allOf k said.dropLast).length (i + 1) L7 ∧ (∀ e ∈ said, okS k e)) :=
              ⟨by omega, by omega, HO7.out, HL7.out, HOK7.out, HSI.out.mono (Nat.le_succ i), HOS.out⟩
            go_wp2_with fail
            go_roundw
            · exact ⟨i + 1, _, _, said, As, cs, by omega, by omega, by go_num, rfl, HFIN.out.1, rfl, HFIN.out.2⟩
            · simp [intOf]; omega
        by_cases h2 : kind = 2
        · subst h2
          go_wp2_with fail
          refine (lg_ping HL5.out sa HGD.out (by have := HCL.out; omega)).mono ?_
          rintro e w7 ⟨rfl, hL7, hkp⟩
          have HFIN : Hid (s.size ≤ 256 * (i + 1) ∧ said.length ≤ i + 1 ∧ w7.ownsRow w2.heap.size 52 3 (.slice As said.length cs) said.length (evCells said) ∧ LgAt w2 w7 g k (L.ping k sa).1 ∧ (L.ping k sa).1.okb k (700 * (i + 1)) ∧ SaysI k draw (sb s) (allOf k said) (allOf k said.dropLast).length (i + 1) (L.ping k sa).1 ∧ (∀ e ∈ said, okS k e)) :=
            ⟨by omega, by omega, hkp.own _ _ _ _ _ _ HO5.out (by decide), hL7, (Lg.ping_like k L sa).okb HOK.out (by have := Lg.ping_ctl k L sa; have := HCL.out; omega), HSI.out.ping sa, HOS.out⟩
          clear hL7 hkp
          go_wp2_with fail
          go_roundw
          · exact ⟨i + 1, _, _, said, As, cs, by omega, by omega, by go_num, rfl, HFIN.out.1, rfl, HFIN.out.2⟩
          · simp [intOf]; omega
        by_cases h3 : kind = 3
        · subst h3
          go_wp2_with fail
          refine (lg_close HL5.out code sa HGD.out (by have := HCL.out; omega)).mono ?_
          rintro e w7 ⟨rfl, hL7, hkp⟩
          have HFIN : Hid (s.size ≤ 256 * (i + 1) ∧ said.length ≤ i + 1 ∧ w7.ownsRow w2.heap.size 52 3 (.slice As said.length cs) said.length (evCells said) ∧ LgAt w2 w7 g k (L.close k code sa).1 ∧ (L.close k code sa).1.okb k (700 * (i + 1)) ∧ SaysI k draw (sb s) (allOf k said) (allOf k said.dropLast).length (i + 1) (L.close k code sa).1 ∧ (∀ e ∈ said, okS k e)) :=
            ⟨by omega, by omega, hkp.own _ _ _ _ _ _ HO5.out (by decide), hL7, (Lg.close_like k L code sa).okb HOK.out (by have := Lg.close_ctl k L code sa; have := HCL.out; omega), (HSI.out.close code sa).mono (Nat.le_succ i), HOS.out⟩
          clear hL7 hkp
          go_wp2_with fail
          go_roundw
          · exact ⟨i + 1, _, _, said, As, cs, by omega, by omega, by go_num, rfl, HFIN.out.1, rfl, HFIN.out.2⟩
          · simp [intOf]; omega
        by_cases h4 : kind = 4
        · subst h4
          go_wp2_with fail
          refine (lg_take HL5.out na).mono ?_
          rintro e w7 ⟨g7, rfl, -, hb7, hL7, hkp⟩
          have hrl : L.o.ring.length ≤ 256 := by have := HL5.out.ring; have := HK3.out; omega
          obtain ⟨P7, hP7, hS7, hcv7⟩ := taken_str HL5.out na hb7
          have hpl := pk_le na L.o.ring.length
          have hp7 : P7.size ≤ 256 := by omega
          have HFIN : Hid ((s ++ P7).size ≤ 256 * (i + 1) ∧ said.length ≤ i + 1 ∧ w7.ownsRow w2.heap.size 52 3 (.slice As said.length cs) said.length (evCells said) ∧ LgAt w2 w7 g k (L.take k na) ∧ (L.take k na).okb k (700 * (i + 1)) ∧ SaysI k draw (sb (s ++ P7)) (allOf k said) (allOf k said.dropLast).length (i + 1) (L.take k na) ∧ (∀ e ∈ said, okS k e)) :=
            ⟨by rw [ByteArray.size_append]; omega, by omega, hkp.own _ _ _ _ _ _ HO5.out (by decide), hL7, (Lg.take_like k L na).okb HOK.out (by have := Lg.take_ctl k L na; have := HCL.out; omega), by
              rw [sb_append, hS7]
              exact (HSI.out.take na).mono (Nat.le_succ i), HOS.out⟩
          obtain ⟨pn, hpn⟩ : ∃ x, x = pk na L.o.ring.length := ⟨_, rfl⟩
          rw [← hpn] at hcv7 ⊢
          clear hL7 hb7 hS7 hpn hP7 hpl hkp
          go_wp2_with fail
          go_roundw
          · exact ⟨i + 1, _, _, said, As, cs, by omega, by omega, by go_num, rfl, HFIN.out.1, rfl, HFIN.out.2⟩
          · simp [intOf]; omega
        · have HFIN : Hid (s.size ≤ 256 * (i + 1) ∧ said.length ≤ i + 1 ∧ w5.ownsRow w2.heap.size 52 3 (.slice As said.length cs) said.length (evCells said) ∧ LgAt w2 w5 g k L ∧ L.okb k (700 * (i + 1)) ∧ SaysI k draw (sb s) (allOf k said) (allOf k said.dropLast).length (i + 1) L ∧ (∀ e ∈ said, okS k e)) := ⟨by omega, by omega, HO5.out, HL5.out, HOK.out.mono (by omega), HSI.out.mono (Nat.le_succ i), HOS.out⟩
          go_wp2_with fail
          go_roundw
          · exact ⟨i + 1, _, _, said, As, cs, by omega, by omega, by go_num, rfl, HFIN.out.1, rfl, HFIN.out.2⟩
          · simp [intOf]; omega
      · have HOK2 := Lib.hid (HOK.out.mono (show 700 * i ≤ 700 * (i + 1) by omega))
        have HSI2 := Lib.hid (HSI.out.mono (Nat.le_succ i))
        clear HOK HSI
        rw [decide_eq_false hfew]
        go_wp2_with fail
        go_roundw
        · exact ⟨i + 1, L, s, said, As, cs, by omega, by omega, by go_num, rfl, by omega, rfl, by omega, HO5.out, HL5.out, HOK2.out, HSI2.out, HOS.out⟩
        · simp [intOf]; omega
    | false =>
      have hrl : L.o.ring.length ≤ 256 := by have := HL.out.ring; have := HK3.out; omega
      obtain ⟨hwt, hst⟩ := HSI.out.wt hrl (by omega)
      have HOUT := Lib.hid (l_outs HL.out hst (by rw [HK3.out]; omega) hwt (fun S L => SaysI k draw S (allOf k said) (allOf k said.dropLast).length i L) (fun S L h => h.take 1000) (sb s) HSI.out)
      clear hrl hwt hst hbq HSI HOK HL
      go_wp2_with fail
      refine HOUT.out.mono ?_
      rintro e w5 ⟨t, L5, rfl, ht5, hL5, hq5, hsi5, -, -, -, hkp5⟩
      have hsi6 : SaysI k draw (sb (s ++ t)) (allOf k said) (allOf k said.dropLast).length i L5 := by rw [sb_append]; exact hsi5
      have hxz : (s ++ t).size ≤ 107680 := by rw [ByteArray.size_append]; omega
      obtain ⟨H, hsc, hsd⟩ := hsi6.over hq5 (by rw [sb_length]; unfold maxLen; omega)
      rw [HK4.out] at hsc
      obtain ⟨X, hX⟩ : ∃ X, X = s ++ t := ⟨_, rfl⟩
      have HX := Lib.hid hX
      rw [← hX] at hxz hsc
      obtain ⟨fs, hfs⟩ : ∃ fs, fs = mfr (!mk) H draw := ⟨_, rfl⟩
      rw [← hfs] at hsc
      have hfl : fs.length = H.length := by rw [hfs, mfr_length]
      have hfg : ∀ i (hi : i < H.length), ∃ h : i < fs.length, fs[i].op = H[i].op ∧ fs[i].fin = H[i].fin ∧ fs[i].data = H[i].data := fun i hi => ⟨by omega, by
        subst hfs
        exact mfr_get (!mk) H draw i (by omega) hi⟩
      obtain ⟨m, hm⟩ : ∃ m, m = H.length := ⟨_, rfl⟩
      have HALL := Lib.hid (fun W => all_frames (s := X) (by omega) (!mk) hsc m (by rw [hfl, hm]) W)
      have HL5 := Lib.hid hL5
      have HO5 := Lib.hid (hkp5.own _ _ _ _ _ _ HO.out (by decide))
      have HSD := Lib.hid hsd
      have HM := Lib.hid hm.symm
      have HFG := Lib.hid hfg
      have HQ5 := Lib.hid hq5
      clear hL5 hq5 hsi5 hsi6 hsc hsd hX hm HOUT hkp5 HO hfs hfl hfg hsz
      go_wp2_with fail
      rw [← HX.out]
      refine (HALL.out _).mono ?_
      rintro e w6 ⟨A6, c6, rfl, hr6, hc6, hc6m, ht6⟩
      unfold maxLen at hc6m
      have HR6 := Lib.hid hr6
      have HL6 := Lib.hid (HL5.out.no ht6)
      have HO6 := Lib.hid (own_no HO5.out ht6)
      have HTF := Lib.hid (HT2.out.trans HL6.out.old)
      clear hr6 ht6 HALL HL5 HO5
      go_wp2_with fail
      refine (lg_quiet HL6.out).mono ?_
      rintro e w7 ⟨rfl, rfl⟩
      rw [HQ5.out]
      go_wp2_with fail
      obtain ⟨_, _, hvs, hsc1, hsc2, hrs, _, _⟩ := own_cases HO6.out
      injection hvs with hv1 _ hv2
      subst hv1 hv2
      have HRS := Lib.hid hrs
      have hgc := (HBC.out.touch HL6.out.old (fun h => h)).cell 4
      have hgl := (HBC.out.touch HL6.out.old (fun h => h)).lt
      simp [cfgV] at hgc
      have HGC : Hid (∀ W, Touch NoS w6 W → W.cell? ⟨gc, 4, none⟩ = some (.int .i64 F)) := fun W t => t.cell hgc
      have hsl30 : said.length ≤ 30 := by omega
      have HE7 : Hid ((w6.alloc (.cells #[] 52)).ownsRow w6.heap.size 52 3 (.slice (some ⟨w6.heap.size, 0, none⟩) 0 0) 0 (evCells (said.take 0))) := ⟨rfl, .inr ⟨w6.heap.size, 0, #[], rfl, Nat.le_refl _, Blk.new w6 52 #[], Nat.le_refl _, by simp [maxLen], rfl, rfl⟩⟩
      have HT7 : Hid (Touch NoS w6 (w6.alloc (.cells #[] 52))) := (Touch.refl _ _).alloc _
      clear hrs hgc HO6
      go_loopw [19, 20, 21, 22] (fun gv dv bv iv wr => ∃ (i j r : Nat) (data : ByteArray) (Ag : Option Addr) (cg : Nat), i ≤ m ∧ iv = .int .i64 i ∧ j ≤ said.length ∧ gv = .slice Ag j cg ∧ dv = .string data ∧ data.size ≤ 256 ∧ bv = .bool (decide (0 < r)) ∧
        wr.ownsRow w6.heap.size 52 3 (.slice Ag j cg) j (evCells (said.take j)) ∧ Touch NoS w6 wr ∧ Hid (Tell k said ((H.take i).filter isD) j r data)) (fun _ _ _ iv _ => m - (intOf iv).toNat)
      case atStart => exact ⟨0, 0, 0, ⟨#[]⟩, _, _, Nat.zero_le _, rfl, Nat.zero_le _, rfl, rfl, Nat.zero_le _, rfl, HE7.out, HT7.out, Tell.new HK.out HOS.out⟩
      case round =>
        obtain ⟨i2, j, r, data, Ag, cg, him, rfl, hjs, rfl, rfl, hdz, rfl, hog, htr, htl⟩ := hrel
        have HOG := Lib.hid hog
        have HTR := Lib.hid htr
        have HTL : Hid (Tell k said ((H.take i2).filter isD) j r data) := htl
        have hg6 := hgl
        clear hog htr htl HE7 HT7
        by_cases hlt : i2 < m
        · have hil : i2 < H.length := by rw [HM.out]; exact hlt
          obtain ⟨hif, f1, f2, f3⟩ := HFG.out i2 hil
          obtain ⟨gf, of, rfl, hgf, a0, a1, a2, a3, a4, a5, a6, a7⟩ := fr_cells (HR6.out.touch_no HTR.out) i2 hif
          rw [f2] at a0
          rw [f1] at a1
          rw [f3] at a7
          have hend := HSD.out.end_ i2 hil
          have hfts := filter_take_succ H i2 hil
          have hpre := filter_take_pre H i2 hil
          have hokf := HSD.out.ok H[i2] (List.getElem_mem hil)
          obtain ⟨f, hf⟩ : ∃ f, f = H[i2] := ⟨_, rfl⟩
          rw [← hf] at a0 a1 a7 hend hfts hpre hokf
          obtain ⟨fin, hfin⟩ : ∃ x, x = f.fin := ⟨_, rfl⟩
          obtain ⟨fop, hfop⟩ : ∃ x, x = f.op := ⟨_, rfl⟩
          obtain ⟨fd, hfd⟩ : ∃ x, x = f.data := ⟨_, rfl⟩
          rw [← hfin] at a0
          rw [← hfop] at a1 hend
          rw [← hfd] at a7
          clear hf hif f1 f2 f3 a2 a3 a4 a5 a6 hil
          by_cases hD : fop ≤ 2
          · have hisD : isD f = true := decide_eq_true (by rw [← hfop]; exact hD)
            rw [if_pos hisD] at hfts
            obtain ⟨Q, hQ⟩ := hpre hisD
            obtain ⟨R, hR, -⟩ := HSD.out.all
            obtain ⟨hj, n1, n2, n3, n4, n5⟩ := HTL.out.next HK.out HOS.out (f := f) (Q := Q ++ R) (by rw [← hR, ← hQ]; simp only [List.append_assoc])
            rw [← hfop] at n1
            rw [← hfd] at n2 n3 n4 n5
            rw [← hfin] at n4 n5
            rw [← hfts] at n4 n5
            have hfo : fop = 0 ∨ fop = 1 ∨ fop = 2 := by
              rcases hokf with h | h
              · have := h.op; omega
              · rw [hfop]; exact h.op
            have hk2 := HK2.out
            have hfdz : fd.size ≤ 256 := by omega
            have hfF : ¬ ((F : Int) < fd.size) := by omega
            have hfF2 : decide ((F : Int) < fd.size) = false := decide_eq_false hfF
            have hji : (j : Int) < said.length := by omega
            have N4 := Lib.hid n4
            have N5 := Lib.hid n5
            have hcf := HGC.out _ HTR.out
            have hgcl := Nat.lt_of_lt_of_le hgl HTR.out.size
            have hop8 : ¬ fop = 8 := by omega
            obtain ⟨bg, hbg⟩ : ∃ bg, bg = decide (0 < r) := ⟨_, rfl⟩
            rw [← hbg]
            have HBG := Lib.hid hbg
            have hfF3 : decide (F < fd.size) = false := decide_eq_false (by omega)
            clear hend hfts hpre hokf hQ hR hisD n4 n5 HTL hfin hfop hfd hbg
            go_upto_region 34 with (fail)
            go_cut [187] (fun v wx => v = .bool false ∧ Touch NoS wr wx)
            case first =>
              by_cases h0 : 0 < r
              · have hbg := HBG.out
                rw [decide_eq_true h0] at hbg
                subst hbg
                clear HBG
                have hf0 := n1.2 h0
                clear n1 hfo hop8 hD h0 n2 n3 hk2
                subst hf0
                go_wp2_with fail
                go_quiet (fail)
                go_wp2_with fail
                go_meet
                exact ⟨by first | rfl | (rw [hfF3]) | (simp; omega), (Touch.refl _ _).drewN _⟩
              · have hbg := HBG.out
                rw [decide_eq_false h0] at hbg
                subst hbg
                clear HBG
                have hne : ¬ fop = 0 := fun h => h0 (n1.1 h)
                clear n1 hfo n2 n3 hk2
                have hq2 : (fop == 0) = false := by rw [beq_eq_false_iff_ne]; exact hne
                have hq3 : decide (fop = 0) = false := decide_eq_false hne
                go_wp2_with fail
                go_quiet (fail)
                go_wp2_with fail
                go_meet
                exact ⟨by simp [hne], (Touch.refl _ _).drewN _⟩
            case rest =>
              obtain ⟨rfl, htd⟩ := hcut
              obtain ⟨wd, rfl⟩ : ∃ w : World, w = wc := ⟨_, rfl⟩
              have c0 := htd.cell a0
              have c7 := htd.cell a7
              have hgf2 := Nat.lt_of_lt_of_le hgf htd.size
              have HTD := Lib.hid (HTR.out.trans htd)
              have HOD := Lib.hid (own_no HOG.out htd)
              obtain ⟨gs, os, rfl, hgs, e0, e1, e2⟩ := ev_cells (HRS.out.touch_no HTD.out) j hj
              obtain ⟨so, hso⟩ : ∃ x, x = said[j].op := ⟨_, rfl⟩
              rw [← hso] at e0
              clear a0 a1 a7 htd hgf HOG HTR e1 e2 hcf n1
              cases fin with
              | false =>
                have HN5 := Lib.hid (N5.out rfl)
                go_wp2_with fail
                go_roundw
                · exact ⟨i2 + 1, j, r + 1, data ++ fd, Ag, cg, by omega, by go_num, hjs, rfl, rfl, n3, by simp, HOD.out, HTD.out, HN5.out⟩
                · simp [intOf]; omega
              | true =>
                obtain ⟨hdat, htl2⟩ := N4.out rfl
                have HTL2 := Lib.hid htl2
                have hcode := (HOS.out said[j] (List.getElem_mem hj)).2.1
                have hev : said[j] = ⟨so, 0, data ++ fd⟩ := by
                  rw [hdat, hso]
                  rcases hx : said[j] with ⟨p, q, u⟩
                  rw [hx] at hcode
                  have hcode2 : q = 0 := hcode
                  rw [hcode2]
                have htk : said.take (j + 1) = said.take j ++ [⟨so, 0, data ++ fd⟩] := by rw [← List.take_append_getElem hj, hev]
                have HTK := Lib.hid htk
                have HEV : Hid (∀ u ∈ (Ev.cs ⟨so, 0, data ++ fd⟩), u.oneCell' = true) := by
                  have := evCells_one [(⟨so, 0, data ++ fd⟩ : Ev)]
                  rw [evCells_single] at this
                  exact this
                have HRN : Hid (Rd (wd.alloc (.cells (Ev.cs ⟨so, 0, data ++ fd⟩).toArray 52)) (some ⟨wd.heap.size, 0, none⟩) (Ev.cs ⟨so, 0, data ++ fd⟩)) := Rd.new wd _ 52 (0, 0)
                have hty : Touch NoS wd (wd.alloc (.cells (Ev.cs ⟨so, 0, data ++ fd⟩).toArray 52)) := (Touch.refl _ _).alloc _
                have HOD' := Lib.hid (own_no HOD.out hty)
                have HTD' := Lib.hid (HTD.out.trans hty)
                have hw6 : w6.heap.size ≤ wd.heap.size := HTD.out.size
                clear hdat htl2 hcode hev htk hty HOD HTD N4 N5 hso
                go_wp2_with (at_builtin; refine wpList_app_row _ rfl (.tmp 213) (.tmp 222) 47 rfl w6.heap.size 52 ie _ 3 32 Tryz.underlying47 hi hz0 hz1 hz2 rfl (by decide) (.slice Ag j cg) j (evCells (said.take j)) rfl HOD'.out (some ⟨wd.heap.size, 0, none⟩) 1 1 (Ev.cs ⟨so, 0, data ++ fd⟩) rfl rfl HRN.out HEV.out (by unfold maxLen; omega) (by omega) (by simp; omega) ?_)
                intro v9 w9 ho9 hgr _
                rw [← evCells_single ⟨so, 0, data ++ fd⟩, ← evCells_append, ← HTK.out] at ho9
                have HT9 := Lib.hid (HTD'.out.grown hgr (fun q hq hl => absurd (own_base HOD'.out hq) (by omega)))
                obtain ⟨A9, c9, rfl, _, _, _, _, _⟩ := own_cases ho9
                have HO9 := Lib.hid ho9
                clear ho9 hgr HOD' HTD' HRN HEV HTK e0
                go_wp2_with fail
                go_roundw
                · exact ⟨i2 + 1, j + 1, 0, ⟨#[]⟩, A9, c9, by omega, by go_num, by omega, rfl, rfl, Nat.zero_le _, by simp, HO9.out, HT9.out, HTL2.out⟩
                · simp [intOf]; omega
          · have hisD : ¬ isD f = true := fun h => hD (by rw [hfop]; exact of_decide_eq_true h)
            rw [if_neg hisD, List.append_nil] at hfts
            have HTL2 : Hid (Tell k said ((H.take (i2 + 1)).filter isD) j r data) := by show Tell k said ((H.take (i2 + 1)).filter isD) j r data; rw [hfts]; exact HTL.out
            clear hfts hpre hokf HTL hfin hfop hfd hisD
            by_cases h8 : fop = 8
            · obtain ⟨hm1, hse⟩ := hend h8
              rw [HM.out] at hm1
              have hmi : (i2 : Int) + 1 = m := by omega
              subst h8
              have HSE := Lib.hid hse
              clear hend hse
              go_wp2_with fail
              refine (lg_sent (HL6.out.no HTR.out)).mono ?_
              rintro e w9 ⟨rfl, rfl⟩
              rw [HSE.out]
              go_wp2_with fail
              go_roundw
              · exact ⟨i2 + 1, j, r, data, Ag, cg, by omega, by go_num, hjs, rfl, rfl, hdz, rfl, HOG.out, HTR.out, HTL2.out⟩
              · simp [intOf]; omega
            · clear hend
              have hgt : (2 : Int) < fop := by omega
              go_wp2_with fail
              go_roundw
              · exact ⟨i2 + 1, j, r, data, Ag, cg, by omega, by go_num, hjs, rfl, rfl, hdz, rfl, HOG.out, HTR.out, HTL2.out⟩
              · simp [intOf]; omega
        · have hmm : i2 = m := by omega
          have htl2 := HTL.out
          rw [hmm, ← HM.out, List.take_length] at htl2
          obtain ⟨o1, o2, o3⟩ := htl2.over HK.out HOS.out HSD.out.low
          obtain ⟨R, hR, hR0⟩ := HSD.out.all
          obtain ⟨Ag', cg', hvg, _, _, hrg, _, _⟩ := own_cases HOG.out
          injection hvg with hv1 _ hv2
          subst hv1 hv2
          have HRG := Lib.hid hrg
          have HRT : Hid (Rd wr As (evCells (said.take j))) := by show Rd wr As (evCells (said.take j)); rw [evs_take]; exact (HRS.out.touch_no HTR.out).take _
          have hjt : (said.take j).length = j := by rw [List.length_take]; omega
          have HJT := Lib.hid hjt
          have hjc : j ≤ cs := by omega
          have hse : j < said.length → L5.sent = true := fun hj => by
            cases hs : L5.sent with
            | true => rfl
            | false =>
              rw [hR0 hs, List.append_nil] at hR
              have := o2 hR
              omega
          have HSE := Lib.hid hse
          have HWH := Lib.hid htl2.whole
          have HO3 := Lib.hid o3
          have HL7 := Lib.hid (HL6.out.no HTR.out)
          have ho1 : ¬ ((j : Int) + 1 < said.length) := by omega
          clear htl2 o2 o3 hR hR0 hrg hjt hse HL6
          go_wp2_with fail
          refine (r12_same Ag As (said.take j) (said.take j) j j cg cs HJT.out HJT.out wr HRG.out HRT.out (by omega) (by omega)).mono ?_
          rintro e w9 ⟨rfl, ht9⟩
          rw [decide_eq_true rfl]
          have HL9 := Lib.hid (HL7.out.no ht9)
          have HRS9 := Lib.hid ((HRS.out.touch_no HTR.out).touch_no ht9)
          have HTF2 := Lib.hid (HT2.out.trans HL9.out.old)
          clear ht9 HL7 HTF
          by_cases hj : j = said.length
          · obtain ⟨h1, h2, -⟩ := HWH.out hj
            subst h1 h2
            have hji : (j : Int) = said.length := by omega
            have hji2 : (said.length : Int) = j := by omega
            go_wp2_with fail
            go_ret
            exact ⟨by simp, HTF2.out⟩
          · have hjl : j < said.length := by omega
            have hs5 := HSE.out hjl
            obtain ⟨gs, os, rfl, hgs, e0, e1, e2⟩ := ev_cells HRS9.out j hjl
            obtain ⟨p1, p2⟩ := HO3.out hjl
            obtain ⟨rest, hrest⟩ : ∃ x, x = said[j].data := ⟨_, rfl⟩
            rw [← hrest] at e2 p1 p2
            have hrz : rest.size ≤ 256 := by
              rw [hrest]
              have h1 := (HOS.out said[j] (List.getElem_mem hjl)).2.2
              have h2 := HK.out.msg
              omega
            have hne : ¬ (said.length : Int) = j := by omega
            have hd1 : ((said.length : Int) == (j : Int)) = false := by rw [beq_eq_false_iff_ne]; exact hne
            have hji : (j : Int) < said.length := by omega
            have p1i : (data.size : Int) ≤ rest.size := by omega
            have q1 : ((rest.extract 0 data.size).toList == data.toList) = true := by rw [str_eq]; exact decide_eq_true p2
            clear e0 e1 p2 hrest
            go_wp2_with fail
            refine (lg_sent HL9.out).mono ?_
            rintro e w10 ⟨rfl, rfl⟩
            rw [hs5]
            go_wp2_with fail
            go_ret
            exact ⟨by simp [q1], HTF2.out⟩
end Go.Proofs.YtpadlcllcmodaaaGreat
