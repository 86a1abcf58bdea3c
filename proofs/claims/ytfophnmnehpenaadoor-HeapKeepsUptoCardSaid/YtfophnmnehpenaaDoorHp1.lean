/- Layer 8: when two numbers are the same one. -/
import Derived.Test.YtfophnmnehpenaaDoorChecked
import Derived.Test.YtfophnmnehpenaaDoorBase
import Derived.Stop.Asserts
namespace Go.Proofs.YtfophnmnehpenaaDoor
open Go Go.RowKit Go.Stop Go.Extern.Stop
set_option linter.all false
def nanB (x : Nat) : Bool := FloatKind.f64.format.order x x != some Ordering.eq
def signB (x : Nat) : Bool := decide (9223372036854775808 ≤ x)
def eqB (x y : Nat) : Bool := FloatKind.f64.format.order x y == some Ordering.eq
def sameB (x y : Nat) : Bool := if nanB x || nanB y then nanB x && nanB y else eqB x y && (signB x == signB y)
set_option maxRecDepth 100000 in
theorem sign_any (x : Nat) (hx : x < 18446744073709551616) (w : World) : Calls Tryd.prog 63 #[.float .f64 x] w fun e w' => e = .returned (.bool (signB x)) ∧ w = w' := by
  have h6 := @run_callFunc_extern Tryd.prog 59 _ Go.Extern.MathFloatBits.float64bits Tryd.func59 (by kernel_rfl) (by kernel_rfl) (by kernel_rfl) (by kernel_rfl)
  have fb : ∀ w : World, (Go.Extern.MathFloatBits.float64bits #[.float .f64 x]).run Tryd.prog w = .ok (.int .u64 (x : Nat)) w := fun w => rfl
  by_cases hs : 9223372036854775808 ≤ x
  · have e : signB x = true := decide_eq_true hs
    have hw : IntKind.i64.wrap (x : Int) = (x : Int) - 18446744073709551616 := by
      unfold IntKind.wrap
      simp [IntKind.signed, IntKind.bits]
      omega
    have hd : decide ((x : Int) - 18446744073709551616 < 0) = true := decide_eq_true (by omega)
    rw [e]
    clear e hs
    go_enter Tryd.func63, Tryd.ntmps63
    go_wp2
    go_ret
    exact ⟨by simp, rfl⟩
  · have e : signB x = false := decide_eq_false hs
    have hw : IntKind.i64.wrap (x : Int) = (x : Int) := IntWalk.i64_in _ (by omega)
    have hd : decide ((x : Int) < 0) = false := decide_eq_false (by omega)
    rw [e]
    clear e hs
    go_enter Tryd.func63, Tryd.ntmps63
    go_wp2
    go_ret
    exact ⟨by simp, rfl⟩
set_option maxRecDepth 100000 in
theorem same_any (x y : Nat) (hx : x < 18446744073709551616) (hy : y < 18446744073709551616) (w : World) : Calls Tryd.prog 57 #[.float .f64 x, .float .f64 y] w fun e w' => e = .returned (.bool (sameB x y)) ∧ w = w' := by
  have S := fun w => sign_any x hx w
  have S' := fun w => sign_any y hy w
  have hR : sameB x y = if nanB x || nanB y then nanB x && nanB y else eqB x y && (signB x == signB y) := rfl
  rw [hR]
  clear hR
  obtain ⟨b1, t1⟩ : ∃ b1, nanB x = b1 := ⟨_, rfl⟩
  obtain ⟨b2, t2⟩ : ∃ b2, nanB y = b2 := ⟨_, rfl⟩
  obtain ⟨b3, t3⟩ : ∃ b3, eqB x y = b3 := ⟨_, rfl⟩
  rw [t1, t2, t3]
  generalize signB x = s1 at *
  generalize signB y = s2 at *
  have u1 : (FloatKind.f64.format.order x x != some Ordering.eq) = b1 := t1
  have u2 : (FloatKind.f64.format.order y y != some Ordering.eq) = b2 := t2
  have u3 : (FloatKind.f64.format.order x y == some Ordering.eq) = b3 := t3
  clear t1 t2 t3 hx hy
  rcases b1 with _ | _ <;> rcases b2 with _ | _ <;> rcases b3 with _ | _
  all_goals
    go_enter Tryd.func57, Tryd.ntmps57
    go_wp2_with (go_at_call 63; first | (refine (S _).mono ?_; rintro e w' ⟨rfl, rfl⟩) | (refine (S' _).mono ?_; rintro e w' ⟨rfl, rfl⟩))
    go_ret
    exact ⟨by simp, rfl⟩
end Go.Proofs.YtfophnmnehpenaaDoor
