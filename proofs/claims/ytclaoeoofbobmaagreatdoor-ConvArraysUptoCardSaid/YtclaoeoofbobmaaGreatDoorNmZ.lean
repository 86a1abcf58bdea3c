/- The library's reading of every number of layer 4: it ends, and says one and the same. The library's reading of a whole number of few digits: that number. -/
import Derived.Test.YtclaoeoofbobmaaGreatDoorHxX
import Derived.Test.YtclaoeoofbobmaaGreatDoorRf2
import Derived.Test.YtclaoeoofbobmaaGreatDoorNmP
namespace Go.Proofs.YtclaoeoofbobmaaGreatDoor
open Go Go.RowKit
set_option linter.all false
namespace Us
/-- what a number by sixteens says -/
def hexV (s : List UInt8) : Nat × Bool := Hx.hexF (Rf.digs (s ++ [112, 48]) true 2).mant (Rf.pow (s ++ [112, 48]) true 2) (Rf.digs (s ++ [112, 48]) true 2).trunc
end Us
end Go.Proofs.YtclaoeoofbobmaaGreatDoor
namespace Go.Proofs.YtclaoeoofbobmaaGreatDoor
open Go Go.RowKit
set_option linter.all false
namespace Us
/-- a sign ahead -/
def sg (n : Bool) (x : Nat) : Nat := if n then Op.negFloat .f64 x else x
set_option maxRecDepth 100000 in
theorem exact_int (m : Nat) (n : Bool) (w : World) (hm : m < 4503599627370496) (hF : Rf.F64 w) :
    Calls Tryz.prog 173 #[.int .u64 (m : Int), .int .i64 0, .bool n] w fun e' w' => e' = .returned (.tuple #[.float .f64 (sg n (floatOfInt .f64 (m : Int))), .bool true]) ∧ w = w' := by
  have d1 : ((m : Int) / 4503599627370496 != 0) = false := by rw [bne_eq_false_iff_eq]; omega
  have c0 := hF.c0
  obtain ⟨x, hx⟩ : ∃ x, floatOfInt .f64 (m : Int) = x := ⟨_, rfl⟩
  have nf : ∀ w : World, (Op.unary .neg (.float .f64 x)).run Tryz.prog w = .ok (.float .f64 (Op.negFloat .f64 x)) w := fun w => rfl
  unfold sg
  cases n
  all_goals
    simp only [if_true, Bool.false_eq_true, if_false]
    rw [hx]
    generalize Op.negFloat .f64 x = y at *
    clear hm hF
    go_enter Tryz.func173, Tryz.ntmps173
    go_wp2
    go_ret2
    exact ⟨rfl, rfl⟩
set_option maxRecDepth 100000 in
/-- a whole number below 2^52, with its sign -/
theorem atof_int {Hi Lo T : Nat → Nat} {l : List UInt8} {m : Nat} {n : Bool} (hm : m < 4503599627370496)
    (SP : ∀ w, Calls Tryz.prog 162 #[.string ⟨l.toArray⟩] w fun e w' => e = .returned (.tuple #[.float .f64 0, .int .i64 0, .bool false]) ∧ w = w')
    (hR : ∀ w, Calls Tryz.prog 163 #[.string ⟨l.toArray⟩] w fun e w' => e = .returned (.tuple #[.int .u64 (m : Int), .int .i64 0, .bool n, .bool false, .bool false, .int .i64 (l.length : Int), .bool true]) ∧ w = w') :
    AD Hi Lo T l (sg n (floatOfInt .f64 (m : Int))) false := by
  intro w hW
  have EX := fun w h => exact_int m n w hm h
  have hF := hW.f
  have co := hW.op
  have BF : ∀ w, Calls Tryz.prog 171 #[.bool false] w fun e w' => e = .returned (.int .u64 0) ∧ w = w' := fun w => bool2_any false w
  have BT : ∀ w, Calls Tryz.prog 171 #[.bool true] w fun e w' => e = .returned (.int .u64 1) ∧ w = w' := fun w => bool2_any true w
  by_cases z : m = 0
  · subst z
    have h6 := @run_callFunc_extern Tryz.prog 172 _ Go.Extern.MathFloatBits.float64frombits Tryz.func172 (by kernel_rfl) (by kernel_rfl) (by kernel_rfl) (by kernel_rfl)
    have fb : ∀ (n : Int) (w : World), (Go.Extern.MathFloatBits.float64frombits #[.int .u64 n]).run Tryz.prog w = .ok (.float .f64 n.toNat) w := fun n w => rfl
    have b0 : bits .or .u64 0 0 = 0 := by decide
    have hz : floatOfInt .f64 ((0 : Nat) : Int) = 0 := by decide
    have hR2 : ∀ w, Calls Tryz.prog 163 #[.string ⟨l.toArray⟩] w fun e w' => e = .returned (.tuple #[.int .u64 0, .int .i64 0, .bool n, .bool false, .bool false, .int .i64 (l.length : Int), .bool true]) ∧ w = w' := hR
    rw [hz]
    clear EX hW hm hz
    cases n
    · rw [show sg false 0 = 0 from rfl]
      clear BT
      go_enter Tryz.func134, Tryz.ntmps134
      go_wp2_with fail
      refine (SP _).mono ?_
      rintro e w1 ⟨rfl, rfl⟩
      go_wp2_with fail
      refine (hR2 _).mono ?_
      rintro e w1 ⟨rfl, rfl⟩
      go_wp2_with fail
      refine (BF _).mono ?_
      rintro e w1 ⟨rfl, rfl⟩
      go_wp2
      go_ret3
      exact ⟨rfl, Pur.refl _⟩
    · rw [show sg true 0 = 9223372036854775808 by decide]
      clear BF
      go_enter Tryz.func134, Tryz.ntmps134
      go_wp2_with fail
      refine (SP _).mono ?_
      rintro e w1 ⟨rfl, rfl⟩
      go_wp2_with fail
      refine (hR2 _).mono ?_
      rintro e w1 ⟨rfl, rfl⟩
      go_wp2_with fail
      refine (BT _).mono ?_
      rintro e w1 ⟨rfl, rfl⟩
      go_wp2
      go_ret3
      exact ⟨rfl, Pur.refl _⟩
  have d1 : ((m : Int) == 0) = false := by rw [beq_eq_false_iff_ne]; omega
  generalize sg n (floatOfInt .f64 (m : Int)) = x at *
  clear hW hm z
  cases n
  · clear BT
    go_enter Tryz.func134, Tryz.ntmps134
    go_wp2_with fail
    refine (SP _).mono ?_
    rintro e w1 ⟨rfl, rfl⟩
    go_wp2_with fail
    refine (hR _).mono ?_
    rintro e w1 ⟨rfl, rfl⟩
    go_wp2_with fail
    refine (BF _).mono ?_
    rintro e w1 ⟨rfl, rfl⟩
    go_wp2_with fail
    refine (EX _ hF).mono ?_
    rintro e w1 ⟨rfl, rfl⟩
    go_wp2
    go_ret3
    exact ⟨rfl, Pur.refl _⟩
  · clear BF
    go_enter Tryz.func134, Tryz.ntmps134
    go_wp2_with fail
    refine (SP _).mono ?_
    rintro e w1 ⟨rfl, rfl⟩
    go_wp2_with fail
    refine (hR _).mono ?_
    rintro e w1 ⟨rfl, rfl⟩
    go_wp2_with fail
    refine (BT _).mono ?_
    rintro e w1 ⟨rfl, rfl⟩
    go_wp2_with fail
    refine (EX _ hF).mono ?_
    rintro e w1 ⟨rfl, rfl⟩
    go_wp2
    go_ret3
    exact ⟨rfl, Pur.refl _⟩
end Us
end Go.Proofs.YtclaoeoofbobmaaGreatDoor
