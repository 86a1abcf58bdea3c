/- The library's math on floats: signs, cuts, powers of two. Frexp, Ldexp at what the remainder by 2^32 asks. Ldexp of 2^32; the remainder by 2^32. -/
import Derived.Test.YtciigfaojmpoiaaGreatDoorFtD
import Derived.Test.YtciigfaojmpoiaaGreatDoorIeX
import Derived.Laws.FloatArith
namespace Go.Proofs.YtciigfaojmpoiaaGreatDoor
open Go Go.RowKit Go.Sort Go.Lib
set_option linter.all false
namespace Mt
theorem and63 {b : Nat} (hb : b < 18446744073709551616) : bits .andNot .u64 (b : Int) 9223372036854775808 = ((b % 9223372036854775808 : Nat) : Int) := by
  have h := u64_andNot_nat b 9223372036854775808 hb (by decide)
  rw [show ((9223372036854775808 : Nat) : Int) = 9223372036854775808 from rfl] at h
  rw [h]
  congr 1
  exact Nat.and_two_pow_sub_one_eq_mod b 63
theorem andEx {b : Nat} (hb : b < 9223372036854775808) : bits .andNot .u64 (b : Int) 9218868437227405312 = ((b % 4503599627370496 : Nat) : Int) := by
  have h := u64_andNot_nat b 9218868437227405312 (by omega) (by decide)
  rw [show ((9218868437227405312 : Nat) : Int) = 9218868437227405312 from rfl] at h
  rw [h]
  congr 1
  have e : (18446744073709551615 - 9218868437227405312 : Nat) = 2 ^ 63 ||| (2 ^ 52 - 1) := by decide
  have z : b &&& 2 ^ 63 = 0 := by
    apply Nat.eq_of_testBit_eq
    intro j
    rw [Nat.testBit_and, Nat.zero_testBit]
    by_cases g : j = 63
    · subst g
      rw [Nat.testBit_lt_two_pow (show b < 2 ^ 63 from hb)]; rfl
    · rw [Nat.testBit_two_pow_of_ne (fun e => g e.symm)]; simp
  rw [e, Nat.and_or_distrib_left, Nat.and_two_pow_sub_one_eq_mod, z, Nat.zero_or]
set_option maxRecDepth 100000 in
theorem abs_any (b : Nat) (w : World) (hb : b < 18446744073709551616) : Calls Tryz.prog 44 #[.float .f64 b] w fun e w' => e = .returned (.float .f64 (b % 9223372036854775808)) ∧ w = w' := by
  have h6 := @run_callFunc_extern Tryz.prog 23 _ Go.Extern.MathFloatBits.float64bits Tryz.func23 (by kernel_rfl) (by kernel_rfl) (by kernel_rfl) (by kernel_rfl)
  have fb : ∀ (w : World), (Go.Extern.MathFloatBits.float64bits #[.float .f64 b]).run Tryz.prog w = .ok (.int .u64 (b : Int)) w := fun w => rfl
  have h7 := @run_callFunc_extern Tryz.prog 43 _ Go.Extern.MathFloatBits.float64frombits Tryz.func43 (by kernel_rfl) (by kernel_rfl) (by kernel_rfl) (by kernel_rfl)
  have ff : ∀ (n : Int) (w : World), (Go.Extern.MathFloatBits.float64frombits #[.int .u64 n]).run Tryz.prog w = .ok (.float .f64 n.toNat) w := fun n w => rfl
  have a1 := and63 hb
  obtain ⟨r, hr⟩ : ∃ r, b % 9223372036854775808 = r := ⟨_, rfl⟩
  rw [hr] at a1 ⊢
  clear hr
  go_enter Tryz.func44, Tryz.ntmps44
  go_wp2
  go_ret
  exact ⟨rfl, rfl⟩
/-- infinite -/
def inf (b : Nat) : Bool := b % 9223372036854775808 == 9218868437227405312
set_option maxRecDepth 100000 in
theorem isinf0_any (b : Nat) (w : World) (hb : b < 18446744073709551616) : Calls Tryz.prog 26 #[.float .f64 b, .int .i64 0] w fun e w' => e = .returned (.bool (inf b)) ∧ w = w' := by
  have AB := fun w => abs_any b w hb
  have hr : b % 9223372036854775808 < 9223372036854775808 := by omega
  unfold inf
  obtain ⟨r, hr'⟩ : ∃ r, b % 9223372036854775808 = r := ⟨_, rfl⟩
  rw [hr'] at hr ⊢
  simp only [hr'] at AB
  clear hr' hb
  have HO : ∃ o, FloatKind.f64.format.order r 9218868437227405311 = o ∧ Hid ((o == some .gt) = (r == 9218868437227405312)) := by
    refine ⟨_, rfl, Lib.hid ?_⟩
    by_cases g : 9218868437227405312 < r
    · have hn : Ie.nan r = true := by unfold Ie.nan; rw [decide_eq_true_eq]; omega
      rw [show FloatKind.f64.format.order r 9218868437227405311 = none from Ie.order_nan1 hn _]
      rw [beq_eq_false_iff_ne.2 (by omega : r ≠ 9218868437227405312)]; rfl
    · have h := Ie.order_rk false false (a := r) (b := 9218868437227405311) (by omega) (by decide)
      rw [show Ieee.double.word false r = r from rfl, show Ieee.double.word false 9218868437227405311 = 9218868437227405311 from rfl] at h
      rw [show FloatKind.f64.format.order r 9218868437227405311 = _ from h]
      have cmp : ∀ x y : Int, compare x y = if x < y then .lt else if x = y then .eq else .gt := fun x y => rfl
      rw [cmp]
      unfold Ie.rk
      simp only [Bool.false_eq_true, if_false]
      by_cases g2 : r = 9218868437227405312
      · rw [g2]; rfl
      · rw [beq_eq_false_iff_ne.2 g2]
        split
        · rfl
        · split
          · rfl
          · omega
  obtain ⟨o, ho, h2⟩ := HO
  go_enter Tryz.func26, Tryz.ntmps26
  go_wp2_with fail
  refine (AB _).mono ?_
  rintro e w1 ⟨rfl, rfl⟩
  go_wp2
  go_ret
  rw [h2.out]
  exact ⟨rfl, rfl⟩
set_option maxRecDepth 100000 in
theorem isnan_any (b : Nat) (w : World) (hb : b < 18446744073709551616) : Calls Tryz.prog 66 #[.float .f64 b] w fun e w' => e = .returned (.bool (Ie.nan b)) ∧ w = w' := by
  rcases g : Ie.nan b with _ | _
  · have o1 : FloatKind.f64.format.order b b = some .eq := Ie.order_self hb g
    clear g
    go_enter Tryz.func66, Tryz.ntmps66
    go_wp2
    go_ret
    exact ⟨rfl, rfl⟩
  · have o1 : FloatKind.f64.format.order b b = none := Ie.order_nan1 g b
    clear g
    go_enter Tryz.func66, Tryz.ntmps66
    go_wp2
    go_ret
    exact ⟨rfl, rfl⟩
end Mt
end Go.Proofs.YtciigfaojmpoiaaGreatDoor
namespace Go.Proofs.YtciigfaojmpoiaaGreatDoor
open Go Go.RowKit Go.Sort Go.Lib
set_option linter.all false
namespace Mt
set_option maxRecDepth 100000 in
theorem normalize_any (b : Nat) (w : World) (h0 : 4503599627370496 ≤ b) (h1 : b < 9218868437227405312) : Calls Tryz.prog 121 #[.float .f64 b] w fun e w' => e = .returned (.tuple #[.float .f64 b, .int .i64 0]) ∧ w = w' := by
  have AB := fun w => abs_any b w (by omega)
  simp only [Nat.mod_eq_of_lt (show b < 9223372036854775808 by omega)] at AB
  have o1 : FloatKind.f64.format.order b 4503599627370496 = some .gt ∨ FloatKind.f64.format.order b 4503599627370496 = some .eq := by
    have h := Ft.ord_pos (a := b) (b := 4503599627370496) h1 (by decide)
    rw [h]
    simp only [compare, compareOfLessAndEq]
    rw [if_neg (by omega)]
    split
    · exact .inr rfl
    · exact .inl rfl
  rcases o1 with o1 | o1
  all_goals
    clear h0 h1
    go_enter Tryz.func121, Tryz.ntmps121
    go_wp2_with fail
    refine (AB _).mono ?_
    rintro e w1 ⟨rfl, rfl⟩
    go_wp2
    go_ret2
    exact ⟨rfl, rfl⟩
set_option maxRecDepth 100000 in
theorem frexp_any (b : Nat) (w : World) (h0 : 4503599627370496 ≤ b) (h1 : b < 9218868437227405312) :
    Calls Tryz.prog 67 #[.float .f64 b] w fun e w' => e = .returned (.tuple #[.float .f64 (4602678819172646912 + b % 4503599627370496), .int .i64 ((b / 4503599627370496 : Nat) - 1022)]) ∧ w = w' := by
  have INN : ∀ w : World, Calls Tryz.prog 89 #[.float .f64 b] w fun e w' => e = .returned (.tuple #[.float .f64 (4602678819172646912 + b % 4503599627370496), .int .i64 ((b / 4503599627370496 : Nat) - 1022)]) ∧ w = w' := by
    intro w
    have h6 := @run_callFunc_extern Tryz.prog 23 _ Go.Extern.MathFloatBits.float64bits Tryz.func23 (by kernel_rfl) (by kernel_rfl) (by kernel_rfl) (by kernel_rfl)
    have fb : ∀ (w : World), (Go.Extern.MathFloatBits.float64bits #[.float .f64 b]).run Tryz.prog w = .ok (.int .u64 (b : Int)) w := fun w => rfl
    have h7 := @run_callFunc_extern Tryz.prog 43 _ Go.Extern.MathFloatBits.float64frombits Tryz.func43 (by kernel_rfl) (by kernel_rfl) (by kernel_rfl) (by kernel_rfl)
    have ff : ∀ (n : Int) (w : World), (Go.Extern.MathFloatBits.float64frombits #[.int .u64 n]).run Tryz.prog w = .ok (.float .f64 n.toNat) w := fun n w => rfl
    have o1 : FloatKind.f64.format.order b 0 = some .gt := by
      have h := Ft.ord_pos (a := b) (b := 0) h1 (by decide)
      rw [h]
      simp only [compare, compareOfLessAndEq]
      rw [if_neg (by omega), if_neg (by omega)]
    have IF := fun w => isinf0_any b w (by omega)
    rw [show inf b = false by unfold inf; rw [beq_eq_false_iff_ne]; omega] at IF
    have IN := fun w => isnan_any b w (by omega)
    rw [show Ie.nan b = false by unfold Ie.nan; rw [decide_eq_false_iff_not]; omega] at IN
    have NR := fun w => normalize_any b w h0 h1
    have x1 : (b : Int) / 4503599627370496 = ((b / 4503599627370496 : Nat) : Int) := by omega
    obtain ⟨ex, hex⟩ : ∃ ex, b / 4503599627370496 = ex := ⟨_, rfl⟩
    have x2 : bits .and .u64 (ex : Int) 2047 = (ex : Int) := by
      have := u64_and_nat ex 2047 (by omega) (by decide)
      rw [show ((2047 : Nat) : Int) = 2047 from rfl] at this
      rw [this]
      have h2 := Nat.and_two_pow_sub_one_eq_mod ex 11
      rw [show (2 ^ 11 - 1 : Nat) = 2047 by decide] at h2
      rw [h2]; omega
    have x3 := andEx (b := b) (by omega)
    obtain ⟨f, hf⟩ : ∃ f, b % 4503599627370496 = f := ⟨_, rfl⟩
    have hf1 : f < 4503599627370496 := by omega
    have x4 : bits .or .u64 (f : Int) 4602678819172646912 = ((4602678819172646912 + f : Nat) : Int) := by
      have := u64_or_nat f 4602678819172646912 (by omega) (by decide)
      rw [show ((4602678819172646912 : Nat) : Int) = 4602678819172646912 from rfl] at this
      rw [this, Nat.or_comm]
      have h2 := Nat.shiftLeft_add_eq_or_of_lt (b := f) (i := 52) hf1 1022
      rw [Nat.shiftLeft_eq] at h2
      rw [show (1022 * 2 ^ 52 : Nat) = 4602678819172646912 by decide] at h2
      rw [h2]
    rw [hex] at x1 ⊢
    rw [hf] at x3 ⊢
    have x5 : IntKind.i64.wrap ((ex : Int) - 1023) = (ex : Int) - 1023 := IntWalk.i64_in _ (by omega)
    have x6 : IntKind.i64.wrap ((ex : Int) - 1022) = (ex : Int) - 1022 := IntWalk.i64_in _ (by omega)
    have x7 : IntKind.i64.wrap (ex : Int) = (ex : Int) := IntWalk.i64_in _ (by omega)
    have x8 : IntKind.i64.wrap ((ex : Int) - 1023 + 1) = (ex : Int) - 1022 := by rw [show (ex : Int) - 1023 + 1 = (ex : Int) - 1022 by omega]; exact x6
    clear h0 h1 hex hf hf1
    go_enter Tryz.func89, Tryz.ntmps89
    go_wp2_with fail
    refine (IF _).mono ?_
    rintro e w1 ⟨rfl, rfl⟩
    go_wp2_with fail
    refine (IN _).mono ?_
    rintro e w1 ⟨rfl, rfl⟩
    go_wp2_with fail
    refine (NR _).mono ?_
    rintro e w1 ⟨rfl, rfl⟩
    go_wp2
    go_ret2
    exact ⟨rfl, rfl⟩
  go_enter Tryz.func67, Tryz.ntmps67
  go_wp2_with fail
  refine (INN _).mono ?_
  rintro e w1 ⟨rfl, rfl⟩
  go_wp2
  go_ret2
  exact ⟨rfl, rfl⟩
end Mt
end Go.Proofs.YtciigfaojmpoiaaGreatDoor
namespace Go.Proofs.YtciigfaojmpoiaaGreatDoor
open Go Go.RowKit Go.Sort Go.Lib
set_option linter.all false
namespace Mt
set_option exponentiation.threshold 3000
set_option maxRecDepth 100000 in
theorem ldexp_any (k : Nat) (w : World) (hk : k ≤ 991) :
    Calls Tryz.prog 68 #[.float .f64 4751297606875873280, .int .i64 (k : Int)] w fun e w' => e = .returned (.float .f64 ((k + 1055) * 4503599627370496)) ∧ w = w' := by
  have INN : ∀ w : World, Calls Tryz.prog 91 #[.float .f64 4751297606875873280, .int .i64 (k : Int)] w fun e w' => e = .returned (.float .f64 ((k + 1055) * 4503599627370496)) ∧ w = w' := by
    intro w
    have h6 := @run_callFunc_extern Tryz.prog 23 _ Go.Extern.MathFloatBits.float64bits Tryz.func23 (by kernel_rfl) (by kernel_rfl) (by kernel_rfl) (by kernel_rfl)
    have fb : ∀ (w : World), (Go.Extern.MathFloatBits.float64bits #[.float .f64 4751297606875873280]).run Tryz.prog w = .ok (.int .u64 4751297606875873280) w := fun w => rfl
    have h7 := @run_callFunc_extern Tryz.prog 43 _ Go.Extern.MathFloatBits.float64frombits Tryz.func43 (by kernel_rfl) (by kernel_rfl) (by kernel_rfl) (by kernel_rfl)
    have ff : ∀ (n : Int) (w : World), (Go.Extern.MathFloatBits.float64frombits #[.int .u64 n]).run Tryz.prog w = .ok (.float .f64 n.toNat) w := fun n w => rfl
    have o1 : FloatKind.f64.format.order 4751297606875873280 0 = some .gt := by decide
    have IF := fun w => isinf0_any 4751297606875873280 w (by decide)
    rw [show inf 4751297606875873280 = false by decide] at IF
    have IN := fun w => isnan_any 4751297606875873280 w (by decide)
    rw [show Ie.nan 4751297606875873280 = false by decide] at IN
    have NR := fun w => normalize_any 4751297606875873280 w (by decide) (by decide)
    have x1 : bits .and .i64 1055 2047 = 1055 := by decide
    have x3 : bits .andNot .u64 4751297606875873280 9218868437227405312 = 0 := by decide
    obtain ⟨R, hR⟩ : ∃ R, (k + 1055) * 4503599627370496 = R := ⟨_, rfl⟩
    have mu := fun w => run_float_arith (P := Tryz.prog) w .mul 22 .f64 4607182418800017408 R R (Ie.one_mul false (r := R) (by omega) (by omega))
    have x4 : bits .or .u64 0 (R : Int) = (R : Int) := by
      have := u64_or_nat 0 R (by decide) (by omega)
      rw [show ((0 : Nat) : Int) = 0 from rfl] at this
      rw [this, Nat.zero_or]
    have x5 : IntKind.i64.wrap ((k : Int) + 32) = (k : Int) + 32 := IntWalk.i64_in _ (by omega)
    have x0 : IntKind.i64.wrap (k : Int) = (k : Int) := IntWalk.i64_in _ (by omega)
    obtain ⟨K, hK⟩ : ∃ K : Nat, k + 1055 = K := ⟨_, rfl⟩
    have x6 : IntKind.i64.wrap ((k : Int) + 32 + 1023) = (K : Int) := by rw [show (k : Int) + 32 + 1023 = (K : Int) by omega]; exact IntWalk.i64_in _ (by omega)
    have x7 : IntKind.u64.wrap (K : Int) = (K : Int) := IntWalk.u64_in _ (by omega)
    have x8 : IntKind.u64.wrap ((K : Int) * 4503599627370496) = (R : Int) := by rw [show (K : Int) * 4503599627370496 = (R : Int) by omega]; exact IntWalk.u64_in _ (by omega)
    have d1 : decide ((k : Int) + 32 < -1075) = false := by rw [decide_eq_false_iff_not]; omega
    have d2 : decide (1023 < (k : Int) + 32) = false := by rw [decide_eq_false_iff_not]; omega
    have d3 : decide ((k : Int) + 32 < -1022) = false := by rw [decide_eq_false_iff_not]; omega
    have HR := Lib.hid hR
    clear hK hR hk
    go_enter Tryz.func91, Tryz.ntmps91
    go_wp2_with fail
    refine (IF _).mono ?_
    rintro e w1 ⟨rfl, rfl⟩
    go_wp2_with fail
    refine (IN _).mono ?_
    rintro e w1 ⟨rfl, rfl⟩
    go_wp2_with fail
    refine (NR _).mono ?_
    rintro e w1 ⟨rfl, rfl⟩
    go_wp2
    go_ret
    rw [HR.out]
    exact ⟨rfl, rfl⟩
  go_enter Tryz.func68, Tryz.ntmps68
  go_wp2_with fail
  refine (INN _).mono ?_
  rintro e w1 ⟨rfl, rfl⟩
  go_wp2
  go_ret
  exact ⟨rfl, rfl⟩
/-- a step of the remainder: the highest bit off -/
theorem strip {d : Nat} (h0 : 4751297606875873280 ≤ d) (h1 : d < 9218868437227405312) : ∃ c, c < d ∧ c < 9218868437227405312 ∧ Ie.V d = Ie.V (d / 4503599627370496 * 4503599627370496) + Ie.V c ∧ ∃ q, Ie.V (d / 4503599627370496 * 4503599627370496) = q * 2 ^ 1106 := by
  obtain ⟨c, hc, hv⟩ := Ie.has (N := d % 4503599627370496 * 2 ^ (d / 4503599627370496 - 1)) rfl (by omega) (by omega)
  have e1 : Ie.V d = (4503599627370496 + d % 4503599627370496) * 2 ^ (d / 4503599627370496 - 1) := by unfold Ie.V; rw [if_neg (by omega)]
  have e2 : Ie.V (d / 4503599627370496 * 4503599627370496) = 4503599627370496 * 2 ^ (d / 4503599627370496 - 1) := by
    unfold Ie.V
    rw [if_neg (by omega), show d / 4503599627370496 * 4503599627370496 % 4503599627370496 = 0 by omega, show d / 4503599627370496 * 4503599627370496 / 4503599627370496 = d / 4503599627370496 by omega]
  have hsum : Ie.V d = Ie.V (d / 4503599627370496 * 4503599627370496) + Ie.V c := by rw [e1, e2, hv, Nat.add_mul]
  have hp : 0 < 2 ^ (d / 4503599627370496 - 1) := Nat.pow_pos (by decide)
  refine ⟨c, ?_, hc, hsum, 2 ^ (d / 4503599627370496 - 1 - 1054), ?_⟩
  · rcases Nat.lt_or_ge c d with g | g
    · exact g
    · have := Ie.V_le.2 g
      have : 0 < 4503599627370496 * 2 ^ (d / 4503599627370496 - 1) := Nat.mul_pos (by decide) hp
      omega
  · rw [e2, ← Nat.pow_add, show d / 4503599627370496 - 1 - 1054 + 1106 = 52 + (d / 4503599627370496 - 1) by omega, Nat.pow_add]
end Mt
end Go.Proofs.YtciigfaojmpoiaaGreatDoor
