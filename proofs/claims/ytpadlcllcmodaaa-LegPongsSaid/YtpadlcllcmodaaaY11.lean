/- frame: Get. | mask.Key; cut: Masked. -/
import Derived.Test.YtpadlcllcmodaaaY10
import Derived.Test.YtpadlcllcmodaaaY07
/- frame: Get. -/
namespace Go.Proofs.Ytpadlcllcmodaaa
open Go.RowKit
set_option linter.unusedSimpArgs false
set_option linter.unusedVariables false

theorem and128 (x : Int) (h0 : 0 ≤ x) (h1 : x ≤ 255) : bits .and .u8 x 128 = if 128 ≤ x then 128 else 0 := by
  have h : ∀ n : Fin 256, bits .and .u8 (n.val : Int) 128 = if 128 ≤ (n.val : Int) then 128 else 0 := by decide +kernel
  have := h ⟨x.toNat, by omega⟩
  simp only [show ((x.toNat : Nat) : Int) = x from by omega] at this
  exact this
theorem and112 (x : Int) (h0 : 0 ≤ x) (h1 : x ≤ 255) : bits .and .u8 x 112 = x / 16 % 8 * 16 := by
  have h : ∀ n : Fin 256, bits .and .u8 (n.val : Int) 112 = (n.val : Int) / 16 % 8 * 16 := by decide +kernel
  have := h ⟨x.toNat, by omega⟩
  simp only [show ((x.toNat : Nat) : Int) = x from by omega] at this
  exact this
theorem and15 (x : Int) (h0 : 0 ≤ x) (h1 : x ≤ 255) : bits .and .u8 x 15 = x % 16 := by
  have h : ∀ n : Fin 256, bits .and .u8 (n.val : Int) 15 = (n.val : Int) % 16 := by decide +kernel
  have := h ⟨x.toNat, by omega⟩
  simp only [show ((x.toNat : Nat) : Int) = x from by omega] at this
  exact this
theorem and127 (x : Int) (h0 : 0 ≤ x) (h1 : x ≤ 255) : bits .and .u8 x 127 = x % 128 := by
  have h : ∀ n : Fin 256, bits .and .u8 (n.val : Int) 127 = (n.val : Int) % 128 := by decide +kernel
  have := h ⟨x.toNat, by omega⟩
  simp only [show ((x.toNat : Nat) : Int) = x from by omega] at this
  exact this

theorem two_blocks (w : World) (t1 t2 : TypeId) (c1 c2 : Array Value) : Blk ((w.alloc (.cells c1 t1)).alloc (.cells c2 t2)).drew w.heap.size t1 c1 ∧ Blk ((w.alloc (.cells c1 t1)).alloc (.cells c2 t2)).drew (w.heap.size + 1) t2 c2 ∧ Touch NoS w ((w.alloc (.cells c1 t1)).alloc (.cells c2 t2)).drew := by
  refine ⟨((Blk.new w t1 c1).alloc _).drew, ?_, (((Touch.refl _ _).alloc _).alloc _).drew⟩
  have := (Blk.new (w.alloc (.cells c1 t1)) t2 c2).drew
  simpa using this
theorem setRow_same {w : World} {g : Nat} {t : TypeId} {cs : Array Value} (h : Blk w g t cs) : w.setRow g cs = w := by
  have hh : (w.setRow g cs).heap = w.heap := by
    apply Array.ext_getElem?
    intro k
    by_cases hk : k = g
    · subst hk
      rw [setRow_heap w k cs cs t (0, 0) h]
      exact h.symm
    · exact setRow_other w g k cs hk
  unfold World.setRow at hh ⊢
  cases w
  simp only at hh ⊢
  rw [hh]
theorem fr_info : (Try.prog.info? 59).map (·.size) = some 8 := by kernel_rfl
theorem fr_one (f : Fr) : f.cs.all (·.oneCell') = true := by simp [Fr.cs, Value.oneCell']
theorem fr_load {w : World} {g : Nat} {t : TypeId} {cs : Array Value} (h : Blk w g t cs) (hs : cs.size = 8) : (loadVar 59 ⟨g, 0, none⟩).run Try.prog w = .ok (.agg cs) w :=
  run_loadVar_row w g t 59 cs (0, 0) _ h Try.underlying59 rfl (by rw [hs]; exact fr_info)
theorem Blk.row {w : World} {g : Nat} {t : TypeId} {old cs : Array Value} (h : Blk w g t old) : Blk (w.setRow g cs) g t cs := setRow_heap w g old cs t (0, 0) h
theorem Touch.row {S : Nat → Prop} {a w : World} (h : Touch S a w) {g : Nat} (hg : a.heap.size ≤ g) (cs : Array Value) : Touch S a (w.setRow g cs) :=
  h.trans' (S' := At g) ⟨rfl, rfl, rfl, by simp, fun k hk hn => setRow_other w g k cs hn⟩ fun i hi he => by
    have he' : i = g := he
    omega
theorem get_results (tmps : Array Value) (w : World) (f : Fr) (g : Nat) (n e : Int) (h4 : tmps.getD 4 undef = .pointer (some ⟨g, 0, none⟩)) (h5 : tmps.getD 5 undef = .int .i64 n) (h6 : tmps.getD 6 undef = .int .i64 e)
    (hb : Blk w g 59 f.cs) : (results Try.f64 tmps).run Try.prog w = .ok (.tuple #[.agg f.cs, .int .i64 n, .int .i64 e]) w := by
  have hld := fr_load hb rfl
  obtain ⟨a, b, c, d, e', h, i, j⟩ := f
  have c0 := hb.cell 0
  have c1 := hb.cell 1
  have c2 := hb.cell 2
  have c3 := hb.cell 3
  have c4 := hb.cell 4
  have c5 := hb.cell 5
  have c6 := hb.cell 6
  have c7 := hb.cell 7
  simp only [Array.getD_eq_getD_getElem?] at h4 h5 h6
  simp [Fr.cs] at c0 c1 c2 c3 c4 c5 c6 c7
  simp [results, Try.results64, go_sem, h4, h5, h6, c0, c1, c2, c3, c4, c5, c6, c7, Fr.cs]
/-- The frame behind its length: n bytes of data, from place at on. -/
def fdata (l : List Int) (fin : Bool) (op : Int) (masked : Bool) (K : List Int) (n : Int) (at_ : Nat) : Fr × Nat × Int :=
  if ((l.length - at_ : Nat) : Int) < n then (Fr.zero, 0, 90)
  else (⟨fin, op, masked, K.getD 0 0, K.getD 1 0, K.getD 2 0, K.getD 3 0, Go.strOfNums (turn K 0 ((l.drop at_).take n.toNat))⟩, at_ + n.toNat, 0)
def fmask (l : List Int) (fin : Bool) (op : Int) (n : Int) (at_ : Nat) : Fr × Nat × Int :=
  if 128 ≤ l.getD 1 0 then (if l.length < at_ + 4 then (Fr.zero, 0, 90) else fdata l fin op true ((l.drop at_).take 4) n (at_ + 4))
  else fdata l fin op false [0, 0, 0, 0] n at_
def flen (l : List Int) (most : Int) (fin : Bool) (op : Int) : Fr × Nat × Int :=
  let g := getLen (l.drop 1)
  if g.2.2 = 81 then (Fr.zero, 0, 91)
  else if g.2.2 ≠ 0 then (Fr.zero, 0, 90)
  else if most < 0 ∨ most < g.1 then (Fr.zero, 0, 92)
  else fmask l fin op g.1 (1 + g.2.1)
/-- The frame that bytes begin with. -/
def fget (l : List Int) (most : Int) : Fr × Nat × Int :=
  if l = [] then (Fr.zero, 0, 90)
  else if l.getD 0 0 / 16 % 8 ≠ 0 ∨ known9 (l.getD 0 0 % 16) = false ∨ (control9 (l.getD 0 0 % 16) = true ∧ (l.getD 0 0 < 128 ∨ (1 < l.length ∧ 125 < l.getD 1 0 % 128))) then (Fr.zero, 0, 91)
  else flen l most (decide (128 ≤ l.getD 0 0)) (l.getD 0 0 % 16)

set_option maxHeartbeats 3200000 in
set_option maxRecDepth 100000 in
theorem f_get_none (A : Option Addr) (cap : Nat) (most : Int) (w : World) :
    Calls Try.prog 64 #[.slice A 0 cap, .int .i64 most] w fun e w' =>
      e = .returned (.tuple #[.agg Fr.zero.cs, .int .i64 0, .int .i64 90]) ∧ Touch NoS w w' := by
  go_enter Try.func64, Try.ntmps64
  go_wp2
  refine bodyPost_ret (v := .tuple #[.agg Fr.zero.cs, .int .i64 0, .int .i64 90]) (by simp [results, Try.results64, go_sem, Fr.zero, Fr.cs]) rfl ⟨rfl, ?_⟩
  exact ((Touch.refl _ _).alloc _)
set_option maxHeartbeats 3200000 in
set_option maxRecDepth 100000 in
theorem f_get_bad (g off : Nat) (n cap : Nat) (hn : 0 < n) (hnc : n ≤ cap) (hc : cap ≤ maxLen) (x o y z v : Int) (fin cn kn : Bool) (most : Int) (w : World)
    (hg : g < w.heap.size) (h0 : w.cell? ⟨g, off, none⟩ = some (.int .u8 x)) (h1 : 1 < n → w.cell? ⟨g, off + 1, none⟩ = some (.int .u8 v))
    (hy : bits .and .u8 x 128 = y) (hyf : (y != 0) = fin) (ho : bits .and .u8 x 15 = o) (ho0 : 0 ≤ o) (ho1 : o ≤ 15) (hz : bits .and .u8 x 112 = z) (hv : bits .and .u8 v 127 = v % 128)
    (hk : known9 o = kn) (hcn : control9 o = cn)
    (hbad : z ≠ 0 ∨ kn = false ∨ (cn = true ∧ (fin = false ∨ (1 < n ∧ 125 < v % 128)))) :
    Calls Try.prog 64 #[.slice (some ⟨g, off, none⟩) n cap, .int .i64 most] w fun e w' =>
      e = .returned (.tuple #[.agg Fr.zero.cs, .int .i64 0, .int .i64 91]) ∧ Touch NoS w w' := by
  have HKN := Lib.hid (f_known o)
  have HCN := Lib.hid (f_control o)
  rw [hk] at HKN
  rw [hcn] at HCN
  unfold maxLen at hc
  have hne : ((n : Int) == 0) = false := by rw [beq_eq_false_iff_ne]; omega
  have hpos' : (0 : Int) < n := by omega
  have H1 := Lib.hid h1
  have HV := Lib.hid hv
  clear hk hcn h1 hv
  by_cases hz0 : z = 0
  · subst hz0
    cases kn with
    | false =>
      clear hbad
      go_enter Try.func64, Try.ntmps64
      go_wp2_with fail
      go_region
      go_wp2_with fail
      refine (HCN.out _).mono ?_
      rintro e w1 ⟨rfl, hw1⟩
      obtain ⟨hb4, hb7, ht⟩ : Blk w1 w.heap.size 59 Fr.zero.cs ∧ Blk w1 (w.heap.size + 1) 59 (Fr.cs ⟨fin, o, false, 0, 0, 0, 0, ⟨#[]⟩⟩) ∧ Touch NoS w w1 := by rw [← hw1]; exact two_blocks _ _ _ _ _
      have ca := ht.cell h0
      have c0 := hb7.cell 0
      have c1 := hb7.cell 1
      simp [Fr.cs] at c0 c1
      have HB4 := Lib.hid hb4
      have HT := Lib.hid ht
      have gl : g < w1.heap.size := by have := ht.size; omega
      clear hw1 hb4 hb7 ht h0
      go_wp2_with fail
      refine (HKN.out _).mono ?_
      rintro e w2 ⟨rfl, rfl⟩
      go_wp2_with (refine wpList_store_row rfl 59 (.tmp 4) (.tmp 66) rfl w.heap.size Fr.zero.cs rfl rfl 59 Fr.zero.cs HB4.out fr_info rfl (fr_one _) ?_; rw [setRow_same HB4.out])
      refine bodyPost_ret (v := .tuple #[.agg Fr.zero.cs, .int .i64 0, .int .i64 91]) (get_results _ _ _ _ _ _ rfl rfl rfl HB4.out) rfl ⟨rfl, HT.out⟩
    | true =>
      obtain ⟨rfl, hbad2⟩ : cn = true ∧ (fin = false ∨ (1 < n ∧ 125 < v % 128)) := by
        rcases hbad with h | h | h
        · exact absurd rfl h
        · cases h
        · exact h
      clear hbad
      cases fin with
      | false =>
        clear hbad2
        go_enter Try.func64, Try.ntmps64
        go_wp2_with fail
        go_region
        go_wp2_with fail
        refine (HCN.out _).mono ?_
        rintro e w1 ⟨rfl, hw1⟩
        obtain ⟨hb4, hb7, ht⟩ : Blk w1 w.heap.size 59 Fr.zero.cs ∧ Blk w1 (w.heap.size + 1) 59 (Fr.cs ⟨false, o, false, 0, 0, 0, 0, ⟨#[]⟩⟩) ∧ Touch NoS w w1 := by rw [← hw1]; exact two_blocks _ _ _ _ _
        have ca := ht.cell h0
        have c0 := hb7.cell 0
        have c1 := hb7.cell 1
        simp [Fr.cs] at c0 c1
        have HB4 := Lib.hid hb4
        have HT := Lib.hid ht
        have gl : g < w1.heap.size := by have := ht.size; omega
        clear hw1 hb4 hb7 ht h0
        go_wp2_with fail
        refine (HKN.out _).mono ?_
        rintro e w2 ⟨rfl, rfl⟩
        go_wp2_with (refine wpList_store_row rfl 59 (.tmp 4) (.tmp 66) rfl w.heap.size Fr.zero.cs rfl rfl 59 Fr.zero.cs HB4.out fr_info rfl (fr_one _) ?_; rw [setRow_same HB4.out])
        refine bodyPost_ret (v := .tuple #[.agg Fr.zero.cs, .int .i64 0, .int .i64 91]) (get_results _ _ _ _ _ _ rfl rfl rfl HB4.out) rfl ⟨rfl, HT.out⟩
      | true =>
        obtain ⟨hn1, hv125⟩ : 1 < n ∧ 125 < v % 128 := by
          rcases hbad2 with h | h
          · cases h
          · exact h
        clear hbad2
        have hn1' : (1 : Int) < n := by omega
        have hv := HV.out
        go_enter Try.func64, Try.ntmps64
        go_wp2_with fail
        go_region
        go_wp2_with fail
        refine (HCN.out _).mono ?_
        rintro e w1 ⟨rfl, hw1⟩
        obtain ⟨hb4, hb7, ht⟩ : Blk w1 w.heap.size 59 Fr.zero.cs ∧ Blk w1 (w.heap.size + 1) 59 (Fr.cs ⟨true, o, false, 0, 0, 0, 0, ⟨#[]⟩⟩) ∧ Touch NoS w w1 := by rw [← hw1]; exact two_blocks _ _ _ _ _
        have ca := ht.cell h0
        have c0 := hb7.cell 0
        have c1 := hb7.cell 1
        simp [Fr.cs] at c0 c1
        have HB4 := Lib.hid hb4
        have HT := Lib.hid ht
        have gl : g < w1.heap.size := by have := ht.size; omega
        have cb := ht.cell (H1.out hn1)
        clear hw1 hb4 hb7 ht h0
        go_wp2_with fail
        refine (HKN.out _).mono ?_
        rintro e w2 ⟨rfl, rfl⟩
        go_wp2_with (refine wpList_store_row rfl 59 (.tmp 4) (.tmp 66) rfl w.heap.size Fr.zero.cs rfl rfl 59 Fr.zero.cs HB4.out fr_info rfl (fr_one _) ?_; rw [setRow_same HB4.out])
        refine bodyPost_ret (v := .tuple #[.agg Fr.zero.cs, .int .i64 0, .int .i64 91]) (get_results _ _ _ _ _ _ rfl rfl rfl HB4.out) rfl ⟨rfl, HT.out⟩
  · have hzb : (z != 0) = true := by rw [bne_iff_ne]; exact hz0
    clear hbad hz0
    go_enter Try.func64, Try.ntmps64
    go_wp2_with fail
    go_region
    go_wp2_with fail
    refine (HCN.out _).mono ?_
    rintro e w1 ⟨rfl, hw1⟩
    obtain ⟨hb4, hb7, ht⟩ : Blk w1 w.heap.size 59 Fr.zero.cs ∧ Blk w1 (w.heap.size + 1) 59 (Fr.cs ⟨fin, o, false, 0, 0, 0, 0, ⟨#[]⟩⟩) ∧ Touch NoS w w1 := by rw [← hw1]; exact two_blocks _ _ _ _ _
    have ca := ht.cell h0
    have c0 := hb7.cell 0
    have c1 := hb7.cell 1
    simp [Fr.cs] at c0 c1
    have HB4 := Lib.hid hb4
    have HT := Lib.hid ht
    have gl : g < w1.heap.size := by have := ht.size; omega
    clear hw1 hb4 hb7 ht h0
    go_wp2_with (refine wpList_store_row rfl 59 (.tmp 4) (.tmp 66) rfl w.heap.size Fr.zero.cs rfl rfl 59 Fr.zero.cs HB4.out fr_info rfl (fr_one _) ?_; rw [setRow_same HB4.out])
    refine bodyPost_ret (v := .tuple #[.agg Fr.zero.cs, .int .i64 0, .int .i64 91]) (get_results _ _ _ _ _ _ rfl rfl rfl HB4.out) rfl ⟨rfl, HT.out⟩

theorem Touch.below' {a w w' : World} {B : Nat} (h : Touch NoS a w) (k : Below B w w') (hB : a.heap.size ≤ B) : Touch NoS a w' :=
  ⟨k.os.trans h.os, k.tape.trans h.tape, k.output.trans h.output, Nat.le_trans h.size k.size, fun i hi hn => (k.block i (by omega)).trans (h.block i hi hn)⟩
theorem m_get_ (A : Option Addr) (l : List Int) (n cap : Nat) (hn : l.length = n) (w : World) (hr : Rd w A (u8s l)) (hb : bytesIn l) (hl : n ≤ cap) (hc : cap ≤ maxLen) (hl2 : n ≤ 4611686018427387904) :
    Calls Try.prog 87 #[.slice A n cap] w fun e w' =>
      e = .returned (.tuple #[.int .u64 (getLen l).1, .int .i64 (getLen l).2.1, .int .i64 (getLen l).2.2]) ∧ Touch NoS w w' := by
  subst hn
  exact m_get A l cap w hr hb hl hc hl2
end Go.Proofs.Ytpadlcllcmodaaa
/- mask.Key; cut: Masked. -/
namespace Go.Proofs.Ytpadlcllcmodaaa
open Go.RowKit
set_option linter.unusedSimpArgs false
set_option linter.unusedVariables false

set_option maxHeartbeats 1600000 in
set_option maxRecDepth 100000 in
theorem m_key (n : Int) (h0 : 0 ≤ n) (h1 : n ≤ 4294967295) (w : World) : Calls Try.prog 75 #[.int .u32 n] w fun e w' =>
    e = .returned (.agg #[.int .u8 (n / 16777216), .int .u8 (n / 65536 % 256), .int .u8 (n / 256 % 256), .int .u8 (n % 256)]) ∧ Touch NoS w w' := by
  go_enter Try.func75, Try.ntmps75
  go_wp2_with fail
  refine bodyPost_ret (v := .agg #[.int .u8 (n / 16777216), .int .u8 (n / 65536 % 256), .int .u8 (n / 256 % 256), .int .u8 (n % 256)]) (by simp [results, Try.results75, go_sem]) rfl ⟨rfl, (Touch.refl _ _).alloc _⟩

/-- A frame with a number's mask. -/
def mask1 (f : Fr) (d : Int) : Fr := ⟨f.fin, f.op, true, d / 16777216, d / 65536 % 256, d / 256 % 256, d % 256, f.data⟩
def maskAll (l : List Fr) (ds : List Int) : List Fr := List.zipWith mask1 l ds
/-- The first k of them masked. -/
def maskK (l : List Fr) (ds : List Int) (k : Nat) : List Fr := (maskAll l ds).take k ++ l.drop k
theorem maskAll_length (l : List Fr) (ds : List Int) (h : l.length ≤ ds.length) : (maskAll l ds).length = l.length := by
  unfold maskAll
  rw [List.length_zipWith]
  omega
theorem maskK_length (l : List Fr) (ds : List Int) (k : Nat) (h : l.length ≤ ds.length) (hk : k ≤ l.length) : (maskK l ds k).length = l.length := by
  unfold maskK
  rw [List.length_append, List.length_take, maskAll_length l ds h, List.length_drop]
  omega
theorem maskK_split (l : List Fr) (ds : List Int) (k : Nat) (h : l.length ≤ ds.length) (hk : k < l.length) : ∃ A B, A.length = k ∧ maskK l ds k = A ++ l[k] :: B ∧ maskK l ds (k + 1) = A ++ mask1 l[k] (ds[k]'(by omega)) :: B := by
  have hM := maskAll_length l ds h
  refine ⟨(maskAll l ds).take k, l.drop (k + 1), by rw [List.length_take, hM]; omega, ?_, ?_⟩
  · unfold maskK
    rw [List.drop_eq_getElem_cons hk]
  · unfold maskK
    have e : (maskAll l ds).take (k + 1) = (maskAll l ds).take k ++ [(maskAll l ds)[k]'(by omega)] := by simp
    rw [e, List.append_assoc]
    have e2 : (maskAll l ds)[k]'(by omega) = mask1 l[k] (ds[k]'(by omega)) := by unfold maskAll; rw [List.getElem_zipWith]
    rw [e2]
    rfl
theorem own_set8 {w : World} {base g c n z : Nat} {e : TypeId} {xs : List Value} (h : w.ownsRow base e z (.slice (some ⟨g, 0, none⟩) n c) n xs) (j : Nat) (u : Value) : (w.setCell ⟨g, j, none⟩ u).ownsRow base e z (.slice (some ⟨g, 0, none⟩) n c) n (xs.set j u) := by
  refine ⟨by rw [List.length_set]; exact h.1, ?_⟩
  rcases h.2 with ⟨hv, _⟩ | ⟨g', cap, cur, hv, hb, hg, hc, hm, hs, ht⟩
  · cases hv
  · injection hv with h1 _ h3
    injection h1 with h1
    injection h1 with h1
    subst h1
    subst h3
    refine .inr ⟨g, c, cur.setIfInBounds j u, rfl, hb, Blk.set_ (t := e) hg j u, hc, hm, by simpa using hs, ?_⟩
    rw [← ht]
    simp only [Array.toList_setIfInBounds, List.take_set]
theorem set_mid (A : List Fr) (c : List Value) (R : List Value) (j : Nat) (hj : j < c.length) (u : Value) : (frs A ++ (c ++ R)).set (A.length * 8 + j) u = frs A ++ (c.set j u ++ R) := by
  rw [List.set_append_right _ _ (by rw [frs_length]; omega), frs_length, show A.length * 8 + j - A.length * 8 = j from by omega, List.set_append_left _ _ hj]
theorem u32_at {w : World} {A : Option Addr} {l : List Int} (h : Rd w A (l.flatMap fun x => [.int .u32 x])) (k : Nat) (hk : k < l.length) : ∃ g off, A = some ⟨g, off, none⟩ ∧ g < w.heap.size ∧ w.cell? ⟨g, off + k, none⟩ = some (.int .u32 l[k]) := by
  have hf : (l.flatMap fun x => [Value.int .u32 x]) = l.map (Value.int .u32) := by rw [List.map_eq_flatMap]
  rw [hf] at h
  obtain ⟨g, off, hA, hg, hc⟩ := h (by intro he; simp at he; rw [he] at hk; simp at hk)
  exact ⟨g, off, hA, hg, hc k _ (by simp [hk])⟩

end Go.Proofs.Ytpadlcllcmodaaa
