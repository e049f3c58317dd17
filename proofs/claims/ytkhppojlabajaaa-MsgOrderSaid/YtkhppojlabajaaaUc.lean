/- The utf laws' own example: awake. -/
import Derived.Test.YtkhppojlabajaaaUb
import Derived.Lib.SlBytesConst
namespace Go.Proofs.Ytkhppojlabajaaa
open Go.RowKit
set_option linter.unusedSimpArgs false
set_option linter.unusedVariables false

theorem u_feed_ (g : Nat) (c : Uc) (A : Option Addr) (l : List Int) (cap : Nat) (c' : Uc) (n : Nat) (hres : ufeed c l = (c', n)) (w : World) (h : IsU w g c) (hok : c.ok) (hr : Rd w A (u8s l)) (hb : bytesIn l) (hA : ∀ a, A = some a → a.block ≠ g) (hc : c.count + l.length ≤ 4611686018427387904) :
    Calls Try.prog 64 #[.pointer (some ⟨g, 0, none⟩), .slice A l.length cap] w fun e w' => e = .returned (.int .i64 n) ∧ IsU w' g c' ∧ Touch (At g) w w' := by
  have := u_feed g c A l cap w h hok hr hb hA hc
  rwa [hres] at this
theorem u_valid_ (A : Option Addr) (l : List Int) (cap : Nat) (r : Bool) (hres : (ucount l).2 = r) (w : World) (hr : Rd w A (u8s l)) (hb : bytesIn l) (hA : ∀ a, A = some a → a.block < w.heap.size) (hl : l.length ≤ 4611686018427387904) :
    Calls Try.prog 74 #[.slice A l.length cap] w fun e w' => e = .returned (.bool r) ∧ Touch NoS w w' := by
  have := u_valid A l cap w hr hb hA hl
  rwa [hres] at this
theorem u_count_ (A : Option Addr) (l : List Int) (cap : Nat) (r : Int × Bool) (hres : ucount l = r) (w : World) (hr : Rd w A (u8s l)) (hb : bytesIn l) (hA : ∀ a, A = some a → a.block < w.heap.size) (hl : l.length ≤ 4611686018427387904) :
    Calls Try.prog 78 #[.slice A l.length cap] w fun e w' => e = .returned (.tuple #[.int .i64 r.1, .bool r.2]) ∧ Touch NoS w w' := by
  have := u_count A l cap w hr hb hA hl
  rwa [hres] at this
theorem IsU.no {w w' : World} {g : Nat} {c : Uc} (h : IsU w g c) (k : Touch NoS w w') : IsU w' g c := Blk.touch h k (fun h => h)
theorem IsU.lt {w : World} {g : Nat} {c : Uc} (h : IsU w g c) : g < w.heap.size := Blk.lt h

end Go.Proofs.Ytkhppojlabajaaa
