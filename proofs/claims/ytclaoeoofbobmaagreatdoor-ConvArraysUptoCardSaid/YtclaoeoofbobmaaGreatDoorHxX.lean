/- The library's rounding of any number written by sixteens that is whole. The library's rounding of any number written by sixteens that is whole, walked. -/
import Derived.Test.YtclaoeoofbobmaaGreatDoorUsY
namespace Go.Proofs.YtclaoeoofbobmaaGreatDoor
open Go Go.RowKit
set_option linter.all false
namespace Hx
open Rf (up dn F64)
def rn (k : Nat) (e : Int) : Nat × Int :=
  if (k &&& 3) ||| (k / 4 &&& 1) = 3 then (if k / 4 + 1 = 9007199254740992 then (4503599627370496, e + 2 + 1) else (k / 4 + 1, e + 2)) else (k / 4, e + 2)
def dnm (q : Nat) (e : Int) : Int := if q / 4503599627370496 = 0 then -1023 else e
def odd1 (k : Nat) (tr : Bool) : Nat := if tr then k ||| 1 else k
def fin (q : Nat) (e : Int) : Nat × Bool := if 1023 < e then (9218868437227405312, true) else ((q &&& 4503599627370495) ||| (e + 1023).toNat * 4503599627370496, false)
def hexF (m : Nat) (p : Int) (tr : Bool) : Nat × Bool :=
  let D := dn 64 (odd1 (up 64 m (p + 52)).1 tr) (up 64 m (p + 52)).2
  let R := rn D.1 D.2
  fin R.1 (dnm R.1 R.2)
theorem half_or (k : Nat) : k / 2 ||| k % 2 ≤ k / 2 + 1 := by
  have h1 : k % 2 = 0 ∨ k % 2 = 1 := by omega
  rcases h1 with h | h <;> rw [h]
  · rw [Nat.or_zero]; omega
  · have : k / 2 ||| 1 = k / 2 + 1 ∨ k / 2 ||| 1 = k / 2 := by
      rcases (show k / 2 % 2 = 0 ∨ k / 2 % 2 = 1 by omega) with g | g
      · left
        have e : k / 2 = 2 * (k / 4) := by omega
        rw [e, show 2 * (k / 4) = (k / 4) <<< 1 by rw [Nat.shiftLeft_eq]; omega, ← Nat.shiftLeft_add_eq_or_of_lt (by decide)]
      · right
        have e : k / 2 = 2 * (k / 4) + 1 := by omega
        rw [e, show 2 * (k / 4) + 1 = (k / 4) <<< 1 + 1 by rw [Nat.shiftLeft_eq]; omega, Nat.shiftLeft_add_eq_or_of_lt (by decide), Nat.or_assoc]
        rfl
    omega
end Hx
end Go.Proofs.YtclaoeoofbobmaaGreatDoor
namespace Go.Proofs.YtclaoeoofbobmaaGreatDoor
open Go Go.RowKit
set_option linter.all false
namespace Hx
open Rf (up dn F64)
end Hx
end Go.Proofs.YtclaoeoofbobmaaGreatDoor
