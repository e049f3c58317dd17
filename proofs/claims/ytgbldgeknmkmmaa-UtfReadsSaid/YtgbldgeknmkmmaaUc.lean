/- The utf laws' own example: awake. -/
import Derived.Test.YtgbldgeknmkmmaaUb
import Derived.Lib.SlBytesConst
namespace Go.Proofs.Ytgbldgeknmkmmaa
open Go.RowKit
set_option linter.unusedSimpArgs false
set_option linter.unusedVariables false

theorem Rd.new (w : World) (l : List Value) (t : TypeId) (fr : Nat × Nat) : Rd (w.alloc (.cells l.toArray t fr)) (some ⟨w.heap.size, 0, none⟩) l := fun _ =>
  ⟨w.heap.size, 0, rfl, by simp, fun j u hu => by
    rw [Nat.zero_add]
    unfold World.cell?
    rw [heap_alloc_new]
    simpa using hu⟩
theorem u_feed_ (g : Nat) (c : Uc) (A : Option Addr) (l : List Int) (cap : Nat) (c' : Uc) (n : Nat) (hres : ufeed c l = (c', n)) (w : World) (h : IsU w g c) (hok : c.ok) (hr : Rd w A (u8s l)) (hb : bytesIn l) (hA : ∀ a, A = some a → a.block ≠ g) (hc : c.count + l.length ≤ 4611686018427387904) :
    Calls Try.prog 31 #[.pointer (some ⟨g, 0, none⟩), .slice A l.length cap] w fun e w' => e = .returned (.int .i64 n) ∧ IsU w' g c' ∧ Touch (At g) w w' := by
  have := u_feed g c A l cap w h hok hr hb hA hc
  rwa [hres] at this
theorem u_valid_ (A : Option Addr) (l : List Int) (cap : Nat) (r : Bool) (hres : (ucount l).2 = r) (w : World) (hr : Rd w A (u8s l)) (hb : bytesIn l) (hA : ∀ a, A = some a → a.block < w.heap.size) (hl : l.length ≤ 4611686018427387904) :
    Calls Try.prog 35 #[.slice A l.length cap] w fun e w' => e = .returned (.bool r) ∧ Touch NoS w w' := by
  have := u_valid A l cap w hr hb hA hl
  rwa [hres] at this
theorem u_count_ (A : Option Addr) (l : List Int) (cap : Nat) (r : Int × Bool) (hres : ucount l = r) (w : World) (hr : Rd w A (u8s l)) (hb : bytesIn l) (hA : ∀ a, A = some a → a.block < w.heap.size) (hl : l.length ≤ 4611686018427387904) :
    Calls Try.prog 32 #[.slice A l.length cap] w fun e w' => e = .returned (.tuple #[.int .i64 r.1, .bool r.2]) ∧ Touch NoS w w' := by
  have := u_count A l cap w hr hb hA hl
  rwa [hres] at this
theorem IsU.no {w w' : World} {g : Nat} {c : Uc} (h : IsU w g c) (k : Touch NoS w w') : IsU w' g c := Blk.touch h k (fun h => h)
theorem IsU.lt {w : World} {g : Nat} {c : Uc} (h : IsU w g c) : g < w.heap.size := Blk.lt h

set_option maxHeartbeats 1600000 in
set_option maxRecDepth 100000 in
theorem u_awake (w : World) : Calls Try.prog 29 #[] w fun e w' => e = .returned (.bool true) ∧ Touch NoS w w' := by
  have kc := fun (w : World) (C : Array Value) (n c : Nat) => Lib.run_convert_bytes_const (P := Try.prog) w 48 5 C n c Try.underlying48 Try.underlying5
  go_enter Try.func29, Try.ntmps29
  go_wp2_with fail
  refine (u_new _).mono ?_
  rintro e w1 ⟨g, rfl, hg, hu, ht⟩
  have HU := Lib.hid hu
  have HT := Lib.hid ht
  clear hu ht
  go_wp2_with fail
  refine (u_feed_ g Uc.new _ [195] 1 ⟨1, 128, 191, 0, false⟩ 1 (by rfl) _ (HU.out.no ((Touch.refl _ _).alloc _)) new_ok (Rd.new w1 (u8s [195]) _ _) (by simp [bytesIn]) (by intro a ha; injection ha with ha; subst ha; have := HU.out.lt; show w1.heap.size ≠ g; omega) (by simp [Uc.new])).mono ?_
  rintro e w2 ⟨rfl, hu, ht⟩
  have HU2 := Lib.hid hu
  have HT2 := Lib.hid ((HT.out.alloc _).at_new ht hg)
  clear hu ht HU HT
  go_wp2_with fail
  refine (u_whole g _ _ HU2.out).mono ?_
  rintro e w3 ⟨rfl, rfl⟩
  rw [show (Uc.whole ⟨1, 128, 191, 0, false⟩) = false from rfl]
  go_wp2_with fail
  refine (u_feed_ g ⟨1, 128, 191, 0, false⟩ _ [164, 237, 160] 3 ⟨2, 128, 159, 1, true⟩ 2 (by rfl) _ (HU2.out.no ((Touch.refl _ _).alloc _)) (by simp [Uc.ok]) (Rd.new w2 (u8s [164, 237, 160]) _ _) (by simp [bytesIn]) (by intro a ha; injection ha with ha; subst ha; have := HU2.out.lt; show w2.heap.size ≠ g; omega) (by simp)).mono ?_
  rintro e w3 ⟨rfl, hu, ht⟩
  have HU3 := Lib.hid hu
  have HT3 := Lib.hid ((HT2.out.alloc _).at_new ht hg)
  clear hu ht HU2 HT2
  go_wp2_with fail
  refine (u_count_ _ [195, 164] 2 (1, true) (by rfl) _ (Rd.new w3 (u8s [195, 164]) _ _) (by simp [bytesIn]) (by intro a ha; injection ha with ha; subst ha; simp) (by simp)).mono ?_
  rintro e w4 ⟨rfl, ht⟩
  have HT4 := Lib.hid ((HT3.out.alloc _).trans ht)
  have HU4 := Lib.hid (HU3.out.no (((Touch.refl _ _).alloc _).trans ht))
  clear ht HU3 HT3
  go_wp2_with fail
  refine (u_right g _ _ HU4.out).mono ?_
  rintro e w5 ⟨rfl, rfl⟩
  go_wp2_with fail
  refine (u_valid_ _ [97] 1 true (by rfl) _ (Rd.new w4 (u8s [97]) _ _) (by simp [bytesIn]) (by intro a ha; injection ha with ha; subst ha; simp) (by simp)).mono ?_
  rintro e w5 ⟨rfl, ht⟩
  have HT5 := Lib.hid ((HT4.out.alloc _).trans ht)
  clear ht HT4 HU4
  go_wp2_with fail
  refine (u_valid_ _ [192] 1 false (by rfl) _ (Rd.new w5 (u8s [192]) _ _) (by simp [bytesIn]) (by intro a ha; injection ha with ha; subst ha; simp) (by simp)).mono ?_
  rintro e w6 ⟨rfl, ht⟩
  have HT6 := Lib.hid ((HT5.out.alloc _).trans ht)
  clear ht HT5
  go_wp2
  go_ret
  exact ⟨rfl, HT6.out⟩
end Go.Proofs.Ytgbldgeknmkmmaa
