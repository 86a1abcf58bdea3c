/- Decimal digits: what they say, and a number's own. No program in sight. Layer 8: which keys are indexes; the digits of every number. No program in sight. Layer 8: when two numbers are the same one. -/
import Derived.Test.YtclaoeoofbobmaaGreatDoorBase
import Derived.Lib.AtoiAll
import Derived.Lib.ItoaNum
import Derived.Test.YtclaoeoofbobmaaGreatDoorUtfPure
import Derived.Test.YtclaoeoofbobmaaGreatDoorChecked
import Derived.Stop.Asserts
namespace Go.Proofs.YtclaoeoofbobmaaGreatDoor
open Go Go.RowKit
set_option linter.all false
def digB (c : UInt8) : Bool := decide (48 ≤ c.toNat) && decide (c.toNat ≤ 57)
def digitsB (l : List UInt8) : Bool := l.all digB
/-- what digits say behind a number -/
def dnext (a : Nat) (c : UInt8) : Nat := a * 10 + (c.toNat - 48)
def dval (acc : Nat) (l : List UInt8) : Nat := l.foldl dnext acc
theorem dval_nil (a : Nat) : dval a [] = a := rfl
theorem dval_cons (a : Nat) (c : UInt8) (r : List UInt8) : dval a (c :: r) = dval (a * 10 + (c.toNat - 48)) r := by
  unfold dval
  rw [List.foldl_cons, dnext]
theorem dval_append (x y : List UInt8) (a : Nat) : dval a (x ++ y) = dval (dval a x) y := by
  unfold dval
  rw [List.foldl_append]
theorem dig_of (u : Nat) (h : u < 10) : (UInt8.ofNat (48 + u)).toNat = 48 + u := by rw [UInt8.toNat_ofNat']; omega
theorem decDigits_facts : ∀ u : Nat, dval 0 (Lib.decDigits u) = u ∧ digitsB (Lib.decDigits u) = true ∧ ∃ c r, Lib.decDigits u = c :: r ∧ (0 < u → c.toNat ≠ 48) := by
  intro u
  induction u using Nat.strongRecOn with
  | _ u ih =>
    rw [Lib.decDigits]
    by_cases h : u < 10
    · rw [dif_pos h]
      have e := dig_of u h
      refine ⟨?_, ?_, _, _, rfl, fun h0 => by rw [e]; omega⟩
      · rw [dval_cons, dval_nil, e]; omega
      · simp only [digitsB, List.all_cons, List.all_nil, digB, e]; simp; omega
    · rw [dif_neg h]
      obtain ⟨h1, h2, c, r, h3, h4⟩ := ih (u / 10) (by omega)
      have e := dig_of (u % 10) (by omega)
      refine ⟨?_, ?_, c, r ++ [UInt8.ofNat (48 + u % 10)], by rw [h3]; rfl, fun _ => h4 (by omega)⟩
      · rw [dval_append, h1, dval_cons, dval_nil, e]; omega
      · unfold digitsB at h2 ⊢
        rw [List.all_append, h2]
        simp only [List.all_cons, List.all_nil, digB, e]; simp; omega
/-- digits with no 0 ahead that say at most 65535 -/
def portOf (p : List UInt8) : Option Int :=
  if p ≠ [] ∧ digitsB p = true ∧ p.head?.map (·.toNat) ≠ some 48 ∧ dval 0 p ≤ 65535 then some (dval 0 p) else none
end Go.Proofs.YtclaoeoofbobmaaGreatDoor
namespace Go.Proofs.YtclaoeoofbobmaaGreatDoor
open Go Go.RowKit
set_option linter.all false
abbrev Bytes := List UInt8
def unitsOf (l : List UInt8) : List Nat := (List.range (l.length / 2)).map (at16 l)
def wide8 (l : List UInt8) : List UInt8 := l.flatMap fun c => [0, c]
def keyOf (n : Int) : List UInt8 := wide8 (Lib.itoa n)
def badLen (l : List UInt8) : Bool := l.length % 2 != 0 || l.length == 0 || decide (20 < l.length)
/-- the number of digits' units; none stands ahead of it that is 0 -/
def idxL : List Nat → Nat → Bool → Option Nat
  | [], n, _ => some n
  | u :: r, n, z => if u < 48 ∨ 57 < u ∨ (z = true ∧ n = 0) then none else idxL r (n * 10 + (u - 48)) true
def dgL : List Nat → Nat → Option Nat
  | [], n => some n
  | u :: r, n => if u < 48 ∨ 57 < u then none else dgL r (n * 10 + (u - 48))
def most31 (o : Option Nat) : Option Nat := o.bind fun n => if 2147483647 < n then none else some n
def index (l : List UInt8) : Option Nat := if badLen l = true then none else most31 (idxL (unitsOf l) 0 false)
def rindex (l : List UInt8) : Option Nat := if badLen l = true then none else (dgL (unitsOf l) 0).bind fun n => if 2147483647 < n ∨ keyOf n ≠ l then none else some n
theorem unitsOf_len (l : List UInt8) : (unitsOf l).length = l.length / 2 := by simp [unitsOf]
theorem unitsOf_at (l : List UInt8) (i : Nat) (h : i < l.length / 2) : (unitsOf l)[i]? = some (at16 l i) := by simp [unitsOf, h]
theorem wide8_len (l : List UInt8) : (wide8 l).length = 2 * l.length := by
  induction l with
  | nil => rfl
  | cons c r ih => simp only [wide8, List.flatMap_cons, List.length_append, List.length_cons, List.length_nil] at ih ⊢; omega
end Go.Proofs.YtclaoeoofbobmaaGreatDoor
namespace Go.Proofs.YtclaoeoofbobmaaGreatDoor
open Go Go.RowKit Go.Stop Go.Extern.Stop
set_option linter.all false
def nanB (x : Nat) : Bool := FloatKind.f64.format.order x x != some Ordering.eq
def signB (x : Nat) : Bool := decide (9223372036854775808 ≤ x)
def eqB (x y : Nat) : Bool := FloatKind.f64.format.order x y == some Ordering.eq
def sameB (x y : Nat) : Bool := if nanB x || nanB y then nanB x && nanB y else eqB x y && (signB x == signB y)
set_option maxRecDepth 100000 in
theorem sign_any (x : Nat) (hx : x < 18446744073709551616) (w : World) : Calls Tryz.prog 77 #[.float .f64 x] w fun e w' => e = .returned (.bool (signB x)) ∧ w = w' := by
  have h6 := @run_callFunc_extern Tryz.prog 65 _ Go.Extern.MathFloatBits.float64bits Tryz.func65 (by kernel_rfl) (by kernel_rfl) (by kernel_rfl) (by kernel_rfl)
  have fb : ∀ w : World, (Go.Extern.MathFloatBits.float64bits #[.float .f64 x]).run Tryz.prog w = .ok (.int .u64 (x : Nat)) w := fun w => rfl
  by_cases hs : 9223372036854775808 ≤ x
  · have e : signB x = true := decide_eq_true hs
    have hw : IntKind.i64.wrap (x : Int) = (x : Int) - 18446744073709551616 := by
      unfold IntKind.wrap
      simp [IntKind.signed, IntKind.bits]
      omega
    have hd : decide ((x : Int) - 18446744073709551616 < 0) = true := decide_eq_true (by omega)
    rw [e]
    clear e hs
    go_enter Tryz.func77, Tryz.ntmps77
    go_wp2
    go_ret
    exact ⟨by simp, rfl⟩
  · have e : signB x = false := decide_eq_false hs
    have hw : IntKind.i64.wrap (x : Int) = (x : Int) := IntWalk.i64_in _ (by omega)
    have hd : decide ((x : Int) < 0) = false := decide_eq_false (by omega)
    rw [e]
    clear e hs
    go_enter Tryz.func77, Tryz.ntmps77
    go_wp2
    go_ret
    exact ⟨by simp, rfl⟩
set_option maxRecDepth 100000 in
theorem same_any (x y : Nat) (hx : x < 18446744073709551616) (hy : y < 18446744073709551616) (w : World) : Calls Tryz.prog 56 #[.float .f64 x, .float .f64 y] w fun e w' => e = .returned (.bool (sameB x y)) ∧ w = w' := by
  have S := fun w => sign_any x hx w
  have S' := fun w => sign_any y hy w
  have hR : sameB x y = if nanB x || nanB y then nanB x && nanB y else eqB x y && (signB x == signB y) := rfl
  rw [hR]
  clear hR
  obtain ⟨b1, t1⟩ : ∃ b1, nanB x = b1 := ⟨_, rfl⟩
  obtain ⟨b2, t2⟩ : ∃ b2, nanB y = b2 := ⟨_, rfl⟩
  obtain ⟨b3, t3⟩ : ∃ b3, eqB x y = b3 := ⟨_, rfl⟩
  rw [t1, t2, t3]
  generalize signB x = s1 at *
  generalize signB y = s2 at *
  have u1 : (FloatKind.f64.format.order x x != some Ordering.eq) = b1 := t1
  have u2 : (FloatKind.f64.format.order y y != some Ordering.eq) = b2 := t2
  have u3 : (FloatKind.f64.format.order x y == some Ordering.eq) = b3 := t3
  clear t1 t2 t3 hx hy
  rcases b1 with _ | _ <;> rcases b2 with _ | _ <;> rcases b3 with _ | _
  all_goals
    go_enter Tryz.func56, Tryz.ntmps56
    go_wp2_with (go_at_call 77; first | (refine (S _).mono ?_; rintro e w' ⟨rfl, rfl⟩) | (refine (S' _).mono ?_; rintro e w' ⟨rfl, rfl⟩))
    go_ret
    exact ⟨by simp, rfl⟩
end Go.Proofs.YtclaoeoofbobmaaGreatDoor
