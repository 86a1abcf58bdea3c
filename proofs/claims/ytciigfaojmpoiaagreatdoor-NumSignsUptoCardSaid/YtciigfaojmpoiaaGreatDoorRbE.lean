/- The library's exact way of reading a number: the float that the number rounds to. The library's exact way is right. atof64 gives the float that the number rounds to (no sign ahead). -/
import Derived.Test.YtciigfaojmpoiaaGreatDoorRbD
namespace Go.Proofs.YtciigfaojmpoiaaGreatDoor
open Go Go.RowKit
set_option linter.all false
namespace Rb
open Us P10
open Ft hiding V expo
open Ie (V V_lt V_le V_inj)
set_option exponentiation.threshold 40000
def ExactN (n : Bool) (T : Nat → Nat) (m : Nat) (e : Int) (x : Nat) (ok : Bool) : Prop :=
  ∀ w, FT T w → Rf.F64 w → Calls Tryz.prog 159 #[.int .u64 (m : Int), .int .i64 e, .bool n] w fun e' w' => e' = .returned (.tuple #[.float .f64 x, .bool ok]) ∧ w = w'
theorem v_pow : ∀ k, k < 23 → T0 k < 9218868437227405312 ∧ V (T0 k) = 10 ^ k * 2 ^ 1074 := by decide +kernel
theorem inv_self {r n : Nat} (hr : 0 < r) (h : n = V r) : Inv r n 1 := by
  have h1 := V_lt (show r - 1 < r by omega)
  have h2 := V_lt (show r < r + 1 by omega)
  exact ⟨lo_lt (by omega), lo_lt (by omega)⟩
set_option maxRecDepth 100000 in
set_option maxHeartbeats 8000000 in
theorem exact_pos (m : Nat) (e : Int) {b x0 : Nat} (hm0 : 0 < m) (hmm : m < 4503599627370496) (he : -345 ≤ e) (he2 : e ≤ 310) (hx0 : floatOfInt .f64 (m : Int) = x0)
    (h0 : (Ieee.double.read x0).isNaN = false)
    (VI : e = 0 → x0 = Ieee.double.word false b)
    (VD : ∀ (k r : Nat), k < 23 → -e = (k : Int) → floatBits .quo .f64 x0 (T0 k) = some r → r = Ieee.double.word false b)
    (VM : ∀ (k r : Nat), k < 23 → e = (k : Int) → floatBits .mul .f64 x0 (T0 k) = some r → r = Ieee.double.word false b)
    (VMM : ∀ (j k x1 r : Nat), j < 16 → k = j + 22 → e = (k : Int) → floatBits .mul .f64 x0 (T0 j) = some x1 → (FloatKind.f64.format.order x1 4831355200913801216 == some Ordering.gt) = false → (FloatKind.f64.format.order x1 14054727237768577024 == some Ordering.lt) = false → floatBits .mul .f64 x1 (T0 22) = some r → r = Ieee.double.word false b) :
    ∃ x ok, ExactN false T0 m e x ok ∧ (ok = true → x = Ieee.double.word false b) := by
  have hF := t0_fin
  have hm : m / 4503599627370496 = 0 := by omega
  have d1 : ((m : Int) / 4503599627370496 != 0) = false := by rw [bne_eq_false_iff_eq]; omega
  by_cases z : e = 0
  · subst z
    refine ⟨x0, true, fun w hT hF0 => ?_, fun _ => VI rfl⟩
    have c0 := hF0.c0
    clear VI VD VM VMM hF h0 he he2 hm
    go_enter Tryz.func159, Tryz.ntmps159
    go_wp2
    go_ret2
    exact ⟨rfl, rfl⟩
  · skip
    by_cases ng : e < 0
    · by_cases lo : -22 ≤ e
      · obtain ⟨k, hk1⟩ := Int.eq_ofNat_of_zero_le (show 0 ≤ -e by omega)
        have k23 : k < 23 := by omega
        obtain ⟨r, hr, hrn⟩ := Fl.div_some (x := x0) (y := P10.T0 k) h0 (hF k k23)
        have QU := fun w => run_float_arith (P := Tryz.prog) w .quo 22 .f64 x0 (P10.T0 k) r hr
        have wk : IntKind.i64.wrap (-e) = (k : Int) := by rw [hk1]; exact IntWalk.i64_in _ (by omega)
        have kl : (k : Int) < 23 := by omega
        have k0 : (0 : Int) ≤ (k : Int) := by omega
        refine ⟨r, true, fun w hT hF0 => ?_, fun _ => VD k r (by omega) hk1 hr⟩
        have c0 := hF0.c0
        obtain ⟨g, o, c, hg, hk⟩ := hT.sl
        have ck := hk k k23
        have e0 : (e == 0) = false := by rw [beq_eq_false_iff_ne]; exact z
        have lo' : (-22 : Int) ≤ e := lo
        clear VI VD VM VMM hF h0 he he2 hm hk hT hF0 hk1 k23 hr
        go_enter Tryz.func159, Tryz.ntmps159
        go_wp2
        go_ret2
        exact ⟨rfl, rfl⟩
      · refine ⟨x0, false, fun w hT hF0 => ?_, fun h => by cases h⟩
        have c0 := hF0.c0
        have e0 : (e == 0) = false := by rw [beq_eq_false_iff_ne]; exact z
        clear VI VD VM VMM hF h0 he he2 hm hT hF0
        go_enter Tryz.func159, Tryz.ntmps159
        go_wp2
        go_ret2
        exact ⟨rfl, rfl⟩
    · obtain ⟨k, rfl⟩ := Int.eq_ofNat_of_zero_le (show 0 ≤ e by omega)
      have e0 : (((k : Nat) : Int) == 0) = false := by rw [beq_eq_false_iff_ne]; exact z
      have k0 : (0 : Int) < (k : Int) := by omega
      have k00 : (0 : Int) ≤ (k : Int) := by omega
      by_cases k22 : k ≤ 22
      · have kl : (k : Int) < 23 := by omega
        have kn : decide ((22 : Int) < (k : Int)) = false := by rw [decide_eq_false_iff_not]; omega
        have kn2 : decide ((k : Int) ≤ 37) = true := by rw [decide_eq_true_eq]; omega
        have key : ∃ x ok, ExactN false P10.T0 m (k : Int) x ok ∧ (ok = true → x = Ieee.double.word false b) := by
          obtain ⟨r, hr, hrn⟩ := Fl.mul_some (x := x0) (y := P10.T0 k) h0 (hF k (by omega))
          have MU := fun w => run_float_arith (P := Tryz.prog) w .mul 22 .f64 x0 (P10.T0 k) r hr
          rcases g1 : (FloatKind.f64.format.order x0 4831355200913801216 == some Ordering.gt) with _ | _
          · rcases g2 : (FloatKind.f64.format.order x0 14054727237768577024 == some Ordering.lt) with _ | _
            · refine ⟨r, true, fun w hT hF0 => ?_, fun _ => VM k r (by omega) rfl hr⟩
              have c0 := hF0.c0
              obtain ⟨g, o, c, hg, hk⟩ := hT.sl
              have ck := hk k (by omega)
              clear VI VD VM VMM hF h0 he he2 hm hk hT hF0 hr hrn k22 z ng
              go_enter Tryz.func159, Tryz.ntmps159
              go_wp2
              go_ret2
              exact ⟨rfl, rfl⟩
            · refine ⟨x0, false, fun w hT hF0 => ?_, fun h => by cases h⟩
              have c0 := hF0.c0
              obtain ⟨g, o, c, hg, hk⟩ := hT.sl
              have ck := hk k (by omega)
              clear VI VD VM VMM hF h0 he he2 hm hk hT hF0 hr hrn k22 z ng
              go_enter Tryz.func159, Tryz.ntmps159
              go_wp2
              go_ret2
              exact ⟨rfl, rfl⟩
          · refine ⟨x0, false, fun w hT hF0 => ?_, fun h => by cases h⟩
            have c0 := hF0.c0
            obtain ⟨g, o, c, hg, hk⟩ := hT.sl
            have ck := hk k (by omega)
            clear VI VD VM VMM hF h0 he he2 hm hk hT hF0 hr hrn k22 z ng
            go_enter Tryz.func159, Tryz.ntmps159
            go_wp2
            go_ret2
            exact ⟨rfl, rfl⟩
        exact key
      · by_cases k37 : k ≤ 37
        · obtain ⟨j, hj⟩ : ∃ j, k = j + 22 := ⟨k - 22, by omega⟩
          obtain ⟨x1, hx1, h1⟩ := Fl.mul_some (x := x0) (y := P10.T0 j) h0 (hF j (by omega))
          have M1 := fun w => run_float_arith (P := Tryz.prog) w .mul 22 .f64 x0 (P10.T0 j) x1 hx1
          have wj : IntKind.i64.wrap ((k : Int) - 22) = (j : Int) := by rw [show (k : Int) - 22 = (j : Int) by omega]; exact IntWalk.i64_in _ (by omega)
          have jl : (j : Int) < 23 := by omega
          have j0 : (0 : Int) ≤ (j : Int) := by omega
          have kn : decide ((22 : Int) < (k : Int)) = true := by rw [decide_eq_true_eq]; omega
          have kn2 : decide ((k : Int) ≤ 37) = true := by rw [decide_eq_true_eq]; omega
          have key : ∃ x ok, ExactN false P10.T0 m (k : Int) x ok ∧ (ok = true → x = Ieee.double.word false b) := by
            obtain ⟨r, hr, hrn⟩ := Fl.mul_some (x := x1) (y := P10.T0 22) h1 (hF 22 (by omega))
            have MU := fun w => run_float_arith (P := Tryz.prog) w .mul 22 .f64 x1 (P10.T0 22) r hr
            rcases g1 : (FloatKind.f64.format.order x1 4831355200913801216 == some Ordering.gt) with _ | _
            · rcases g2 : (FloatKind.f64.format.order x1 14054727237768577024 == some Ordering.lt) with _ | _
              · refine ⟨r, true, fun w hT hF0 => ?_, fun _ => VMM j k x1 r (by omega) hj rfl hx1 g1 g2 hr⟩
                have c0 := hF0.c0
                obtain ⟨g, o, c, hg, hk⟩ := hT.sl
                have ck := hk 22 (by omega)
                have cj := hk j (by omega)
                clear VI VD VM VMM hF h0 he he2 hm hk hT hF0 hr hrn k22 z ng hj k37 h1 hx1
                go_enter Tryz.func159, Tryz.ntmps159
                go_wp2
                go_ret2
                exact ⟨rfl, rfl⟩
              · refine ⟨x1, false, fun w hT hF0 => ?_, fun h => by cases h⟩
                have c0 := hF0.c0
                obtain ⟨g, o, c, hg, hk⟩ := hT.sl
                have ck := hk 22 (by omega)
                have cj := hk j (by omega)
                clear VI VD VM VMM hF h0 he he2 hm hk hT hF0 hr hrn k22 z ng hj k37 h1 hx1
                go_enter Tryz.func159, Tryz.ntmps159
                go_wp2
                go_ret2
                exact ⟨rfl, rfl⟩
            · refine ⟨x1, false, fun w hT hF0 => ?_, fun h => by cases h⟩
              have c0 := hF0.c0
              obtain ⟨g, o, c, hg, hk⟩ := hT.sl
              have ck := hk 22 (by omega)
              have cj := hk j (by omega)
              clear VI VD VM VMM hF h0 he he2 hm hk hT hF0 hr hrn k22 z ng hj k37 h1 hx1
              go_enter Tryz.func159, Tryz.ntmps159
              go_wp2
              go_ret2
              exact ⟨rfl, rfl⟩
          exact key
        · refine ⟨x0, false, fun w hT hF0 => ?_, fun h => by cases h⟩
          have c0 := hF0.c0
          have kn2 : decide ((k : Int) ≤ 37) = false := by rw [decide_eq_false_iff_not]; omega
          clear VI VD VM VMM hF h0 he he2 hm hT hF0 ng z
          go_enter Tryz.func159, Tryz.ntmps159
          go_wp2
          go_ret2
          exact ⟨rfl, rfl⟩
set_option maxRecDepth 100000 in
set_option maxHeartbeats 8000000 in
theorem exact_neg (m : Nat) (e : Int) {b x0 : Nat} (hm0 : 0 < m) (hmm : m < 4503599627370496) (he : -345 ≤ e) (he2 : e ≤ 310) (hx0 : ∀ w : World, (Op.unary .neg (.float .f64 (floatOfInt .f64 (m : Int)))).run Tryz.prog w = .ok (.float .f64 x0) w)
    (h0 : (Ieee.double.read x0).isNaN = false)
    (VI : e = 0 → x0 = Ieee.double.word true b)
    (VD : ∀ (k r : Nat), k < 23 → -e = (k : Int) → floatBits .quo .f64 x0 (T0 k) = some r → r = Ieee.double.word true b)
    (VM : ∀ (k r : Nat), k < 23 → e = (k : Int) → floatBits .mul .f64 x0 (T0 k) = some r → r = Ieee.double.word true b)
    (VMM : ∀ (j k x1 r : Nat), j < 16 → k = j + 22 → e = (k : Int) → floatBits .mul .f64 x0 (T0 j) = some x1 → (FloatKind.f64.format.order x1 4831355200913801216 == some Ordering.gt) = false → (FloatKind.f64.format.order x1 14054727237768577024 == some Ordering.lt) = false → floatBits .mul .f64 x1 (T0 22) = some r → r = Ieee.double.word true b) :
    ∃ x ok, ExactN true T0 m e x ok ∧ (ok = true → x = Ieee.double.word true b) := by
  have hF := t0_fin
  have hm : m / 4503599627370496 = 0 := by omega
  have d1 : ((m : Int) / 4503599627370496 != 0) = false := by rw [bne_eq_false_iff_eq]; omega
  by_cases z : e = 0
  · subst z
    refine ⟨x0, true, fun w hT hF0 => ?_, fun _ => VI rfl⟩
    have c0 := hF0.c0
    clear VI VD VM VMM hF h0 he he2 hm
    go_enter Tryz.func159, Tryz.ntmps159
    go_wp2
    go_ret2
    exact ⟨rfl, rfl⟩
  · skip
    by_cases ng : e < 0
    · by_cases lo : -22 ≤ e
      · obtain ⟨k, hk1⟩ := Int.eq_ofNat_of_zero_le (show 0 ≤ -e by omega)
        have k23 : k < 23 := by omega
        obtain ⟨r, hr, hrn⟩ := Fl.div_some (x := x0) (y := P10.T0 k) h0 (hF k k23)
        have QU := fun w => run_float_arith (P := Tryz.prog) w .quo 22 .f64 x0 (P10.T0 k) r hr
        have wk : IntKind.i64.wrap (-e) = (k : Int) := by rw [hk1]; exact IntWalk.i64_in _ (by omega)
        have kl : (k : Int) < 23 := by omega
        have k0 : (0 : Int) ≤ (k : Int) := by omega
        refine ⟨r, true, fun w hT hF0 => ?_, fun _ => VD k r (by omega) hk1 hr⟩
        have c0 := hF0.c0
        obtain ⟨g, o, c, hg, hk⟩ := hT.sl
        have ck := hk k k23
        have e0 : (e == 0) = false := by rw [beq_eq_false_iff_ne]; exact z
        have lo' : (-22 : Int) ≤ e := lo
        clear VI VD VM VMM hF h0 he he2 hm hk hT hF0 hk1 k23 hr
        go_enter Tryz.func159, Tryz.ntmps159
        go_wp2
        go_ret2
        exact ⟨rfl, rfl⟩
      · refine ⟨x0, false, fun w hT hF0 => ?_, fun h => by cases h⟩
        have c0 := hF0.c0
        have e0 : (e == 0) = false := by rw [beq_eq_false_iff_ne]; exact z
        clear VI VD VM VMM hF h0 he he2 hm hT hF0
        go_enter Tryz.func159, Tryz.ntmps159
        go_wp2
        go_ret2
        exact ⟨rfl, rfl⟩
    · obtain ⟨k, rfl⟩ := Int.eq_ofNat_of_zero_le (show 0 ≤ e by omega)
      have e0 : (((k : Nat) : Int) == 0) = false := by rw [beq_eq_false_iff_ne]; exact z
      have k0 : (0 : Int) < (k : Int) := by omega
      have k00 : (0 : Int) ≤ (k : Int) := by omega
      by_cases k22 : k ≤ 22
      · have kl : (k : Int) < 23 := by omega
        have kn : decide ((22 : Int) < (k : Int)) = false := by rw [decide_eq_false_iff_not]; omega
        have kn2 : decide ((k : Int) ≤ 37) = true := by rw [decide_eq_true_eq]; omega
        have key : ∃ x ok, ExactN true P10.T0 m (k : Int) x ok ∧ (ok = true → x = Ieee.double.word true b) := by
          obtain ⟨r, hr, hrn⟩ := Fl.mul_some (x := x0) (y := P10.T0 k) h0 (hF k (by omega))
          have MU := fun w => run_float_arith (P := Tryz.prog) w .mul 22 .f64 x0 (P10.T0 k) r hr
          rcases g1 : (FloatKind.f64.format.order x0 4831355200913801216 == some Ordering.gt) with _ | _
          · rcases g2 : (FloatKind.f64.format.order x0 14054727237768577024 == some Ordering.lt) with _ | _
            · refine ⟨r, true, fun w hT hF0 => ?_, fun _ => VM k r (by omega) rfl hr⟩
              have c0 := hF0.c0
              obtain ⟨g, o, c, hg, hk⟩ := hT.sl
              have ck := hk k (by omega)
              clear VI VD VM VMM hF h0 he he2 hm hk hT hF0 hr hrn k22 z ng
              go_enter Tryz.func159, Tryz.ntmps159
              go_wp2
              go_ret2
              exact ⟨rfl, rfl⟩
            · refine ⟨x0, false, fun w hT hF0 => ?_, fun h => by cases h⟩
              have c0 := hF0.c0
              obtain ⟨g, o, c, hg, hk⟩ := hT.sl
              have ck := hk k (by omega)
              clear VI VD VM VMM hF h0 he he2 hm hk hT hF0 hr hrn k22 z ng
              go_enter Tryz.func159, Tryz.ntmps159
              go_wp2
              go_ret2
              exact ⟨rfl, rfl⟩
          · refine ⟨x0, false, fun w hT hF0 => ?_, fun h => by cases h⟩
            have c0 := hF0.c0
            obtain ⟨g, o, c, hg, hk⟩ := hT.sl
            have ck := hk k (by omega)
            clear VI VD VM VMM hF h0 he he2 hm hk hT hF0 hr hrn k22 z ng
            go_enter Tryz.func159, Tryz.ntmps159
            go_wp2
            go_ret2
            exact ⟨rfl, rfl⟩
        exact key
      · by_cases k37 : k ≤ 37
        · obtain ⟨j, hj⟩ : ∃ j, k = j + 22 := ⟨k - 22, by omega⟩
          obtain ⟨x1, hx1, h1⟩ := Fl.mul_some (x := x0) (y := P10.T0 j) h0 (hF j (by omega))
          have M1 := fun w => run_float_arith (P := Tryz.prog) w .mul 22 .f64 x0 (P10.T0 j) x1 hx1
          have wj : IntKind.i64.wrap ((k : Int) - 22) = (j : Int) := by rw [show (k : Int) - 22 = (j : Int) by omega]; exact IntWalk.i64_in _ (by omega)
          have jl : (j : Int) < 23 := by omega
          have j0 : (0 : Int) ≤ (j : Int) := by omega
          have kn : decide ((22 : Int) < (k : Int)) = true := by rw [decide_eq_true_eq]; omega
          have kn2 : decide ((k : Int) ≤ 37) = true := by rw [decide_eq_true_eq]; omega
          have key : ∃ x ok, ExactN true P10.T0 m (k : Int) x ok ∧ (ok = true → x = Ieee.double.word true b) := by
            obtain ⟨r, hr, hrn⟩ := Fl.mul_some (x := x1) (y := P10.T0 22) h1 (hF 22 (by omega))
            have MU := fun w => run_float_arith (P := Tryz.prog) w .mul 22 .f64 x1 (P10.T0 22) r hr
            rcases g1 : (FloatKind.f64.format.order x1 4831355200913801216 == some Ordering.gt) with _ | _
            · rcases g2 : (FloatKind.f64.format.order x1 14054727237768577024 == some Ordering.lt) with _ | _
              · refine ⟨r, true, fun w hT hF0 => ?_, fun _ => VMM j k x1 r (by omega) hj rfl hx1 g1 g2 hr⟩
                have c0 := hF0.c0
                obtain ⟨g, o, c, hg, hk⟩ := hT.sl
                have ck := hk 22 (by omega)
                have cj := hk j (by omega)
                clear VI VD VM VMM hF h0 he he2 hm hk hT hF0 hr hrn k22 z ng hj k37 h1 hx1
                go_enter Tryz.func159, Tryz.ntmps159
                go_wp2
                go_ret2
                exact ⟨rfl, rfl⟩
              · refine ⟨x1, false, fun w hT hF0 => ?_, fun h => by cases h⟩
                have c0 := hF0.c0
                obtain ⟨g, o, c, hg, hk⟩ := hT.sl
                have ck := hk 22 (by omega)
                have cj := hk j (by omega)
                clear VI VD VM VMM hF h0 he he2 hm hk hT hF0 hr hrn k22 z ng hj k37 h1 hx1
                go_enter Tryz.func159, Tryz.ntmps159
                go_wp2
                go_ret2
                exact ⟨rfl, rfl⟩
            · refine ⟨x1, false, fun w hT hF0 => ?_, fun h => by cases h⟩
              have c0 := hF0.c0
              obtain ⟨g, o, c, hg, hk⟩ := hT.sl
              have ck := hk 22 (by omega)
              have cj := hk j (by omega)
              clear VI VD VM VMM hF h0 he he2 hm hk hT hF0 hr hrn k22 z ng hj k37 h1 hx1
              go_enter Tryz.func159, Tryz.ntmps159
              go_wp2
              go_ret2
              exact ⟨rfl, rfl⟩
          exact key
        · refine ⟨x0, false, fun w hT hF0 => ?_, fun h => by cases h⟩
          have c0 := hF0.c0
          have kn2 : decide ((k : Int) ≤ 37) = false := by rw [decide_eq_false_iff_not]; omega
          clear VI VD VM VMM hF h0 he he2 hm hT hF0 ng z
          go_enter Tryz.func159, Tryz.ntmps159
          go_wp2
          go_ret2
          exact ⟨rfl, rfl⟩
end Rb
end Go.Proofs.YtciigfaojmpoiaaGreatDoor
namespace Go.Proofs.YtciigfaojmpoiaaGreatDoor
open Go Go.RowKit
set_option linter.all false
namespace Rb
open Us P10
open Ft hiding V expo
open Ie (V V_lt V_le V_inj read_word)
set_option exponentiation.threshold 40000
/-- a product, any -/
theorem mul_inv (s : Bool) {x y A B : Nat} (hx : x < 9218868437227405312) (hy : y < 9218868437227405312) (vx : V x = A * 2 ^ 1074) (vy : V y = B * 2 ^ 1074) (hA : 0 < A) (hB : 0 < B) :
    ∃ r, 0 < r ∧ Inv r (A * B * 2 ^ 1074) 1 ∧ floatBits .mul .f64 (Ieee.double.word s x) y = some (Ieee.double.word s (min r 9218868437227405312)) := by
  obtain ⟨m, k, e1, e2⟩ := read_word s x hx
  obtain ⟨n, l, f1, f2⟩ := read_word false y hy
  rw [wf] at f1
  have hm : 0 < m := by
    rcases Nat.eq_zero_or_pos m with z | z
    · rw [z, Nat.zero_mul, vx] at e2
      have := Nat.mul_pos hA (pow_pos2 1074)
      omega
    · exact z
  have hn : 0 < n := by
    rcases Nat.eq_zero_or_pos n with z | z
    · rw [z, Nat.zero_mul, vy] at f2
      have := Nat.mul_pos hB (pow_pos2 1074)
      omega
    · exact z
  have hAB : 0 < A * B * 2 ^ 1074 := Nat.mul_pos (Nat.mul_pos hA hB) (pow_pos2 _)
  obtain ⟨r, r0, hr, e⟩ := nearest_inv (mag := m * n) (n := A * B * 2 ^ 1074) (d := 1) (K := 1074) (place := (k : Int) - 1074 + ((l : Int) - 1074)) (Nat.mul_pos hm hn) (by omega) (by omega) (by
    rw [Nat.mul_one, show ((k : Int) - 1074 + ((l : Int) - 1074) + 1074 + ((1074 : Nat) : Int)).toNat = k + l by omega, Nat.pow_add]
    calc A * B * 2 ^ 1074 * 2 ^ 1074 = A * 2 ^ 1074 * (B * 2 ^ 1074) := by
          generalize 2 ^ 1074 = T
          simp only [Nat.mul_assoc, Nat.mul_comm, Nat.mul_left_comm]
      _ = m * 2 ^ k * (n * 2 ^ l) := by rw [e2, f2, vx, vy]
      _ = _ := by
          generalize 2 ^ k = a
          generalize 2 ^ l = c
          simp only [Nat.mul_assoc, Nat.mul_comm, Nat.mul_left_comm]) (by omega)
  refine ⟨r, r0, hr, ?_⟩
  show Ieee.double.mul (Ieee.double.word s x) y = _
  unfold Ieee.Format.mul
  rw [e1, f1]
  show some (Ieee.double.nearest (s ^^ false) (m * n) ((k : Int) - 1074 + ((l : Int) - 1074))) = _
  rw [Bool.xor_false, nearest_sign, e]
theorem V53' : V 4845873199050653696 = 9007199254740992 * 2 ^ 1074 := by decide +kernel
/-- above 2^53 -/
theorem far {r n : Nat} (hr : Inv r n 1) (h : 9007199254740992 * 2 ^ 1074 ≤ n) : 4845873199050653696 ≤ r := by
  rcases Nat.lt_or_ge r 4845873199050653696 with g | g
  · exfalso
    have h1 := lo_le hr.2
    rw [Nat.mul_one] at h1
    have v1 := V_lt g
    have v2 := (V_le (a := r + 1) (b := 4845873199050653696)).2 g
    rw [V53'] at v1 v2
    generalize 9007199254740992 * 2 ^ 1074 = T at *
    omega
  · exact g
theorem p15a : (4831355200913801216 : Nat) = Ieee.double.word false 4831355200913801216 := by decide
theorem p15b : (14054727237768577024 : Nat) = Ieee.double.word true 4831355200913801216 := by decide
/-- THE EXACT WAY IS RIGHT -/
theorem exact_right (n : Bool) (m : Nat) (e : Int) {b : Nat} (hm0 : 0 < m) (hmm : m < 4503599627370496) (he : -345 ≤ e) (he2 : e ≤ 310) (hb0 : 0 < b) (hb1 : b < 9218868437227405312)
    (hI : Inv b (m * 10 ^ e.toNat * 2 ^ 1074) (10 ^ (-e).toNat)) : ∃ x ok, ExactN n T0 m e x ok ∧ (ok = true → x = Ieee.double.word n b) := by
  obtain ⟨c, hc, hv⟩ := Ie.int_has (m : Int) (by omega)
  have hfo : floatOfInt .f64 (m : Int) = Ieee.double.word (decide ((m : Int) < 0)) c := Ie.int_sv hc hv
  rw [Int.natAbs_natCast] at hv
  have hfo2 : floatOfInt .f64 (m : Int) = c := by
    rw [hfo, show decide ((m : Int) < 0) = false by rw [decide_eq_false_iff_not]; omega, wf]
  have h0 : (Ieee.double.read (Ieee.double.word n c)).isNaN = false := Fl.read_word n c (by rw [Ie.d_inf]; omega)
  have VI : e = 0 → Ieee.double.word n c = Ieee.double.word n b := by
    rintro rfl
    have h : Inv b (m * 2 ^ 1074) 1 := by
      have h := hI
      rw [show (0 : Int).toNat = 0 from rfl, show (-(0 : Int)).toNat = 0 from rfl, Nat.pow_zero, Nat.mul_one] at h
      exact h
    rw [← int_right hm0 hb0 hb1 h, hfo2]
  have VD : ∀ (k r : Nat), k < 23 → -e = (k : Int) → floatBits .quo .f64 (Ieee.double.word n c) (T0 k) = some r → r = Ieee.double.word n b := by
    intro k r hk hke hr
    obtain ⟨y1, y2⟩ := v_pow k hk
    have h : Inv b (m * 2 ^ 1074) (10 ^ k) := by
      have h := hI
      rw [show (-e).toNat = k by omega, show e.toNat = 0 by omega, Nat.pow_zero, Nat.mul_one] at h
      exact h
    have h10 : 10 ^ k < 2 ^ 80 := Nat.lt_of_le_of_lt (Nat.pow_le_pow_right (by decide) (show k ≤ 22 by omega)) (by decide)
    have := div_right n hc y1 hv y2 hm0 (pow_pos10 k) h10 hb0 hb1 h
    exact Option.some.inj (hr.symm.trans this)
  have VM : ∀ (k r : Nat), k < 23 → e = (k : Int) → floatBits .mul .f64 (Ieee.double.word n c) (T0 k) = some r → r = Ieee.double.word n b := by
    intro k r hk hke hr
    obtain ⟨y1, y2⟩ := v_pow k hk
    have h : Inv b (m * 10 ^ k * 2 ^ 1074) 1 := by
      have h := hI
      rw [show (-e).toNat = 0 by omega, show e.toNat = k by omega, Nat.pow_zero] at h
      exact h
    have := mul_right n hc y1 hv y2 hm0 (pow_pos10 k) hb0 hb1 h
    exact Option.some.inj (hr.symm.trans this)
  have VMM : ∀ (j k x1 r : Nat), j < 16 → k = j + 22 → e = (k : Int) → floatBits .mul .f64 (Ieee.double.word n c) (T0 j) = some x1 → (FloatKind.f64.format.order x1 4831355200913801216 == some Ordering.gt) = false → (FloatKind.f64.format.order x1 14054727237768577024 == some Ordering.lt) = false → floatBits .mul .f64 x1 (T0 22) = some r → r = Ieee.double.word n b := by
    intro j k x1 r hj hk hke h1 g1 g2 hr
    obtain ⟨y1, y2⟩ := v_pow j (by omega)
    obtain ⟨z1, z2⟩ := v_pow 22 (by omega)
    have h : Inv b (m * 10 ^ j * 10 ^ 22 * 2 ^ 1074) 1 := by
      have h := hI
      rw [show (-e).toNat = 0 by omega, show e.toNat = j + 22 by omega, Nat.pow_zero, Nat.pow_add, ← Nat.mul_assoc] at h
      exact h
    obtain ⟨r1, q0, q1, q2⟩ := mul_inv n hc y1 hv y2 hm0 (pow_pos10 j)
    have hx1 := Option.some.inj (h1.symm.trans q2)
    rcases Nat.lt_or_ge (m * 10 ^ j) 9007199254740992 with g | g
    · obtain ⟨c1, k1, k2⟩ := Ie.has (N := m * 10 ^ j * 2 ^ 1074) (M := m * 10 ^ j) (e := 1074) rfl g (by decide)
      have hpos : 0 < m * 10 ^ j := Nat.mul_pos hm0 (pow_pos10 j)
      have hc10 : 0 < c1 := by
        rcases Nat.eq_zero_or_pos c1 with z | z
        · rw [z] at k2
          have := Nat.mul_pos hpos (pow_pos2 1074)
          rw [show V 0 = 0 from rfl] at k2
          omega
        · exact z
      have hr1 : r1 = c1 := inv_uniq q0 hc10 (by decide) q1 (inv_self hc10 k2.symm)
      rw [hr1, Nat.min_eq_left (by omega)] at hx1
      rw [hx1] at hr
      have := mul_right n k1 z1 k2 z2 hpos (pow_pos10 22) hb0 hb1 h
      exact Option.some.inj (hr.symm.trans this)
    · exfalso
      have hfar := far q1 (Nat.mul_le_mul_right _ g)
      have cmp : ∀ x y : Int, compare x y = if x < y then Ordering.lt else if x = y then .eq else .gt := fun x y => rfl
      cases n
      · have o := Ie.order_rk false false (a := min r1 9218868437227405312) (b := 4831355200913801216) (by omega) (by omega)
        rw [← p15a, ← hx1, cmp] at o
        rw [show FloatKind.f64.format.order x1 4831355200913801216 = _ from o] at g1
        unfold Ie.rk at g1
        simp only [Bool.false_eq_true, if_false] at g1
        rw [if_neg (by omega), if_neg (by omega)] at g1
        cases g1
      · have o := Ie.order_rk true true (a := min r1 9218868437227405312) (b := 4831355200913801216) (by omega) (by omega)
        rw [← p15b, ← hx1, cmp] at o
        rw [show FloatKind.f64.format.order x1 14054727237768577024 = _ from o] at g2
        unfold Ie.rk at g2
        simp only [if_true] at g2
        rw [if_pos (by omega)] at g2
        cases g2
  cases n
  · exact exact_pos m e hm0 hmm he he2 hfo2 h0 VI VD VM VMM
  · refine exact_neg m e hm0 hmm he he2 (fun w => ?_) h0 VI VD VM VMM
    rw [hfo2]
    show Result.ok (Value.float .f64 (Op.negFloat .f64 c)) w = _
    have := Ie.neg_word false (r := c) (by omega)
    rw [wf] at this
    rw [this]
    rfl
end Rb
end Go.Proofs.YtciigfaojmpoiaaGreatDoor
namespace Go.Proofs.YtciigfaojmpoiaaGreatDoor
open Go Go.RowKit
set_option linter.all false
namespace Rb
open Us P10
open Ft hiding V expo
set_option exponentiation.threshold 40000
set_option maxRecDepth 100000 in
theorem exact_no (n : Bool) (m : Nat) (e : Int) (hm : 4503599627370496 ≤ m) : ExactN n T0 m e 0 false := fun w hT hF0 => by
  have d1 : ((m : Int) / 4503599627370496 != 0) = true := by rw [bne_iff_ne]; omega
  have c0 := hF0.c0
  clear hm
  go_enter Tryz.func159, Tryz.ntmps159
  go_wp2
  go_ret2
  exact ⟨rfl, rfl⟩
theorem exact_all (n : Bool) (m : Nat) (e : Int) {b : Nat} (hm0 : 0 < m) (he : -345 ≤ e) (he2 : e ≤ 310) (hb0 : 0 < b) (hb1 : b < 9218868437227405312)
    (hI : Inv b (m * 10 ^ e.toNat * 2 ^ 1074) (10 ^ (-e).toNat)) : ∃ x ok, ExactN n T0 m e x ok ∧ (ok = true → x = Ieee.double.word n b) := by
  rcases Nat.lt_or_ge m 4503599627370496 with g | g
  · exact exact_right n m e hm0 g he he2 hb0 hb1 hI
  · exact ⟨0, false, exact_no n m e g, fun h => by cases h⟩
set_option maxRecDepth 100000 in
set_option maxHeartbeats 16000000 in
/-- THE READING IS RIGHT -/
theorem atof_right {l : List UInt8} {m : Nat} {p : Int} {b : Nat} (hR : RD l m p false) (hm0 : 0 < m) (hm : m < 18446744073709551616) (hp : -345 ≤ p) (hp2 : p ≤ 310) (h0 : 0 < l.length)
    (hd : ∀ c, c = 43 ∨ c = 45 ∨ c = 105 ∨ c = 73 ∨ c = 110 ∨ c = 78 → by8 l 0 ≠ c) (near : Near m p) (hb0 : 0 < b) (hb1 : b < 9218868437227405312)
    (hI : Inv b (m * 10 ^ p.toNat * 2 ^ 1074) (10 ^ (-p).toNat)) : AD Hi0 Lo0 T0 l b false := by
  have SP := fun w => Rf.special_no l w h0 (hd 43 (by simp)) (hd 45 (by simp)) (hd 105 (by simp)) (hd 73 (by simp)) (hd 110 (by simp)) (hd 78 (by simp))
  have BF : ∀ w, Calls Tryz.prog 157 #[.bool false] w fun e w' => e = .returned (.int .u64 0) ∧ w = w' := fun w => bool2_any false w
  have b0 : bits .or .u64 0 0 = 0 := by decide
  unfold RD at hR
  have d1 : ((m : Int) == 0) = false := by rw [beq_eq_false_iff_ne]; omega
  have d2 : decide ((310 : Int) < p) = false := by rw [decide_eq_false_iff_not]; omega
  have d3 : decide (p < -345) = false := by rw [decide_eq_false_iff_not]; omega
  have hrd := rd_right hm0 hm hp hp2 near hb0 hb1 hI
  obtain ⟨x, ok, EX, hx⟩ := exact_all false m p hm0 hp hp2 hb0 hb1 hI
  intro w hW
  have co := hW.op
  have E1 := EX w hW.ft hW.f
  have P1 := parse_any m p hW.pt hW.lt (by omega) hm (by omega) (by omega)
  rw [hrd] at P1
  rcases ok with _ | _
  · clear hW hd hm EX hx hrd hI near
    go_enter Tryz.func120, Tryz.ntmps120
    go_wp2_with fail
    refine (SP _).mono ?_
    rintro e w1 ⟨rfl, rfl⟩
    go_wp2_with fail
    refine (hR _).mono ?_
    rintro e w1 ⟨rfl, rfl⟩
    go_wp2_with fail
    refine (BF _).mono ?_
    rintro e w1 ⟨rfl, rfl⟩
    go_wp2_with fail
    refine E1.mono ?_
    rintro e w1 ⟨rfl, rfl⟩
    go_wp2_with fail
    refine P1.mono ?_
    rintro e w1 ⟨rfl, p1⟩
    go_wp2
    go_ret3
    exact ⟨rfl, p1⟩
  · obtain rfl : x = b := hx rfl
    clear hW hd hm EX hx hrd hI near P1
    go_enter Tryz.func120, Tryz.ntmps120
    go_wp2_with fail
    refine (SP _).mono ?_
    rintro e w1 ⟨rfl, rfl⟩
    go_wp2_with fail
    refine (hR _).mono ?_
    rintro e w1 ⟨rfl, rfl⟩
    go_wp2_with fail
    refine (BF _).mono ?_
    rintro e w1 ⟨rfl, rfl⟩
    go_wp2_with fail
    refine E1.mono ?_
    rintro e w1 ⟨rfl, rfl⟩
    go_wp2
    go_ret3
    exact ⟨rfl, Pur.refl _⟩
end Rb
end Go.Proofs.YtciigfaojmpoiaaGreatDoor
