/- The remainder of a float by 2^32. esnum.Whole, Uint32, Int32, Same at every float. esnum.Uint32, Int32, Whole at every float. -/
import Derived.Test.YtciigfaojmpoiaaGreatDoorFtE
namespace Go.Proofs.YtciigfaojmpoiaaGreatDoor
open Go Go.RowKit Go.Sort Go.Lib
set_option linter.all false
namespace Mt
set_option exponentiation.threshold 3000
theorem geq_of {d : Nat} (h0 : 4751297606875873280 ≤ d) (h1 : d < 9218868437227405312) : FloatKind.f64.format.order d 4751297606875873280 = some .gt ∨ FloatKind.f64.format.order d 4751297606875873280 = some .eq := by
  have h := Ft.ord_pos (a := d) (b := 4751297606875873280) h1 (by decide)
  rw [h]
  simp only [compare, compareOfLessAndEq]
  rw [if_neg (by omega)]
  split
  · exact .inr rfl
  · exact .inl rfl
theorem half_of {f : Nat} (h1 : f < 4503599627370496) : FloatKind.f64.format.order (4602678819172646912 + f) 4602678819172646912 = some .gt ∨ FloatKind.f64.format.order (4602678819172646912 + f) 4602678819172646912 = some .eq := by
  have h := Ft.ord_pos (a := 4602678819172646912 + f) (b := 4602678819172646912) (by omega) (by decide)
  rw [h]
  simp only [compare, compareOfLessAndEq]
  rw [if_neg (by omega)]
  split
  · exact .inr rfl
  · exact .inl rfl
theorem Rem0 {c : Nat} (h : c < 4751297606875873280) : Ie.V c % 2 ^ 1106 = Ie.V c := by
  have h1 := Ie.V_lt h
  have : Ie.V 4751297606875873280 = 2 ^ 1106 := by decide +kernel
  rw [this] at h1
  exact Nat.mod_eq_of_lt h1
/-- a float's bits, as a loop's measure -/
def fl : Value → Nat
  | .float .f64 b => b
  | _ => 0
set_option maxRecDepth 100000 in
set_option maxHeartbeats 16000000 in
theorem mod_pos (c : Nat) (w : World) (hc : c < 9218868437227405312) (h0 : 0 < c) {V0 : Nat} (hV0 : Ie.V c % 2 ^ 1106 = V0) :
    Calls Tryz.prog 46 #[.float .f64 c, .float .f64 4751297606875873280] w fun e w' => (∃ d, d < 4751297606875873280 ∧ Ie.V d = V0 ∧ e = .returned (.float .f64 (Ieee.double.word false d))) ∧ w = w' := by
  have hlt : c < 18446744073709551616 := by omega
  have hw2 : c % 9223372036854775808 = c := by omega
  have IF := fun w => isinf0_any c w hlt
  rw [show inf c = false by unfold inf; rw [hw2, beq_eq_false_iff_ne]; omega] at IF
  have IN := fun w => isnan_any c w hlt
  rw [show Ie.nan c = false by unfold Ie.nan; rw [hw2, decide_eq_false_iff_not]; omega] at IN
  have IY := fun w => isnan_any 4751297606875873280 w (by decide)
  rw [show Ie.nan 4751297606875873280 = false by decide] at IY
  have AB : ∀ w, Calls Tryz.prog 44 #[.float .f64 4751297606875873280] w fun e w' => e = .returned (.float .f64 4751297606875873280) ∧ w = w' := fun w => abs_any 4751297606875873280 w (by decide)
  have FY : ∀ w, Calls Tryz.prog 67 #[.float .f64 4751297606875873280] w fun e w' => e = .returned (.tuple #[.float .f64 4602678819172646912, .int .i64 33]) ∧ w = w' := fun w => frexp_any 4751297606875873280 w (by decide) (by decide)
  have o0 : FloatKind.f64.format.order 4751297606875873280 0 = some .gt := by decide
  have o1 : FloatKind.f64.format.order c 0 = some .gt := by
    rw [Ft.ord_pos hc (by decide)]
    simp only [compare, compareOfLessAndEq]
    rw [if_neg (by omega), if_neg (by omega)]
  clear hlt hw2
  go_enter Tryz.func46, Tryz.ntmps46
  go_wp2_with fail
  refine (IF _).mono ?_
  rintro e w1 ⟨rfl, rfl⟩
  go_wp2_with fail
  refine (IN _).mono ?_
  rintro e w1 ⟨rfl, rfl⟩
  go_wp2_with fail
  refine (IY _).mono ?_
  rintro e w1 ⟨rfl, rfl⟩
  go_wp2_with fail
  refine (AB _).mono ?_
  rintro e w1 ⟨rfl, rfl⟩
  go_wp2_with fail
  refine (FY _).mono ?_
  rintro e w1 ⟨rfl, rfl⟩
  go_wp2
  go_loopw [7] (fun x wr => ∃ d : Nat, x = .float .f64 d ∧ w = wr ∧ d < 9218868437227405312 ∧ Hid (Ie.V d % 2 ^ 1106 = V0)) (fun x _ => fl x)
  case atStart => exact ⟨c, rfl, rfl, hc, Lib.hid hV0⟩
  case round =>
    obtain ⟨d, rfl, rfl, hd, hV⟩ := hrel
    by_cases g : 4751297606875873280 ≤ d
    · obtain ⟨c', hc1, hc2, hs1, q, hq⟩ := strip g hd
      have FR := fun w => frexp_any d w (by omega) hd
      have LD := fun w => ldexp_any (d / 4503599627370496 - 1055) w (by omega)
      rw [show d / 4503599627370496 - 1055 + 1055 = d / 4503599627370496 by omega] at LD
      have SU := fun w => run_float_arith (P := Tryz.prog) w .sub 22 .f64 d (d / 4503599627370496 * 4503599627370496) c' (Ie.sub_sv hd (by omega) hc2 hs1)
      have hV2 : Hid (Ie.V c' % 2 ^ 1106 = V0) := by
        have h := hV.out
        rw [hs1, hq, Nat.add_comm, Nat.add_mul_mod_self_right] at h
        exact Lib.hid h
      obtain ⟨k, hk⟩ : ∃ k, d / 4503599627370496 - 1055 = k := ⟨_, rfl⟩
      have hk2 : ((d / 4503599627370496 : Nat) : Int) - 1022 = (k : Int) + 33 := by omega
      obtain ⟨P, hP⟩ : ∃ P, d / 4503599627370496 * 4503599627370496 = P := ⟨_, rfl⟩
      have x1 : IntKind.i64.wrap (k : Int) = (k : Int) := IntWalk.i64_in _ (by omega)
      have x2 : (k : Int) + 33 - 33 = (k : Int) := by omega
      rw [hP] at LD SU
      rw [hk] at LD
      rw [hk2] at FR
      have o3 := half_of (f := d % 4503599627370496) (by omega)
      obtain ⟨F, hF⟩ : ∃ F, 4602678819172646912 + d % 4503599627370496 = F := ⟨_, rfl⟩
      rw [hF] at FR o3
      have o2 := geq_of g hd
      have hm : fl (.float .f64 c') < fl (.float .f64 d) := hc1
      clear hF hP hk hk2 hs1 hq g hV
      rcases o2 with o2 | o2 <;> rcases o3 with o3 | o3
      all_goals
        go_wp2_with fail
        refine (FR _).mono ?_
        rintro e w1 ⟨rfl, rfl⟩
        go_wp2_with fail
        refine (LD _).mono ?_
        rintro e w1 ⟨rfl, rfl⟩
        go_wp2
        go_roundw
        case rel => exact ⟨c', rfl, trivial, hc2, hV2⟩
        case measure => exact hm
    · have o2 : FloatKind.f64.format.order d 4751297606875873280 = some .lt := by
        have h := Ft.ord_pos (a := d) (b := 4751297606875873280) hd (by decide)
        rw [h]
        simp only [compare, compareOfLessAndEq]
        rw [if_pos (by omega)]
      have hV3 := Lib.hid ((Rem0 (by omega : d < 4751297606875873280)).symm.trans hV.out)
      skip
      clear hV
      go_wp2
      go_ret
      exact ⟨⟨d, by omega, hV3.out, by rw [Ieee.Format.word]; rfl⟩, rfl⟩
set_option maxRecDepth 100000 in
set_option maxHeartbeats 16000000 in
theorem mod_neg (c x : Nat) (hx : Ieee.double.word true c = x) (w : World) (hc : c < 9218868437227405312) (h0 : 0 < c) {V0 : Nat} (hV0 : Ie.V c % 2 ^ 1106 = V0) :
    Calls Tryz.prog 46 #[.float .f64 x, .float .f64 4751297606875873280] w fun e w' => (∃ d, d < 4751297606875873280 ∧ Ie.V d = V0 ∧ e = .returned (.float .f64 (Ieee.double.word true d))) ∧ w = w' := by
  have hlt : x < 18446744073709551616 := by rw [← hx]; unfold Ieee.Format.word; rw [Ie.d_sign, if_pos rfl]; omega
  have hw2 : x % 9223372036854775808 = c := by rw [← hx]; exact (Ie.word_split true c (by omega)).2
  have IF := fun w => isinf0_any x w hlt
  rw [show inf x = false by unfold inf; rw [hw2, beq_eq_false_iff_ne]; omega] at IF
  have IN := fun w => isnan_any x w hlt
  rw [show Ie.nan x = false by unfold Ie.nan; rw [hw2, decide_eq_false_iff_not]; omega] at IN
  have IY := fun w => isnan_any 4751297606875873280 w (by decide)
  rw [show Ie.nan 4751297606875873280 = false by decide] at IY
  have AB : ∀ w, Calls Tryz.prog 44 #[.float .f64 4751297606875873280] w fun e w' => e = .returned (.float .f64 4751297606875873280) ∧ w = w' := fun w => abs_any 4751297606875873280 w (by decide)
  have FY : ∀ w, Calls Tryz.prog 67 #[.float .f64 4751297606875873280] w fun e w' => e = .returned (.tuple #[.float .f64 4602678819172646912, .int .i64 33]) ∧ w = w' := fun w => frexp_any 4751297606875873280 w (by decide) (by decide)
  have o0 : FloatKind.f64.format.order 4751297606875873280 0 = some .gt := by decide
  have o1 : FloatKind.f64.format.order x 0 = some .lt := by
    have h := Ie.order_rk true false (a := c) (b := 0) (by omega) (by decide)
    rw [hx] at h
    refine Eq.trans h ?_
    show some (if -(c : Int) < 0 then Ordering.lt else _) = _
    rw [if_pos (by omega)]
  have n1 : ∀ w : World, (Op.unary .neg (.float .f64 x)).run Tryz.prog w = .ok (.float .f64 c) w := fun w => by
    show Result.ok (Value.float .f64 (Op.negFloat .f64 x)) w = _
    rw [← hx, Ie.neg_word true (by omega)]; rfl
  clear hlt hw2
  go_enter Tryz.func46, Tryz.ntmps46
  go_wp2_with fail
  refine (IF _).mono ?_
  rintro e w1 ⟨rfl, rfl⟩
  go_wp2_with fail
  refine (IN _).mono ?_
  rintro e w1 ⟨rfl, rfl⟩
  go_wp2_with fail
  refine (IY _).mono ?_
  rintro e w1 ⟨rfl, rfl⟩
  go_wp2_with fail
  refine (AB _).mono ?_
  rintro e w1 ⟨rfl, rfl⟩
  go_wp2_with fail
  refine (FY _).mono ?_
  rintro e w1 ⟨rfl, rfl⟩
  go_wp2
  go_loopw [7] (fun x wr => ∃ d : Nat, x = .float .f64 d ∧ w = wr ∧ d < 9218868437227405312 ∧ Hid (Ie.V d % 2 ^ 1106 = V0)) (fun x _ => fl x)
  case atStart => exact ⟨c, rfl, rfl, hc, Lib.hid hV0⟩
  case round =>
    obtain ⟨d, rfl, rfl, hd, hV⟩ := hrel
    by_cases g : 4751297606875873280 ≤ d
    · obtain ⟨c', hc1, hc2, hs1, q, hq⟩ := strip g hd
      have FR := fun w => frexp_any d w (by omega) hd
      have LD := fun w => ldexp_any (d / 4503599627370496 - 1055) w (by omega)
      rw [show d / 4503599627370496 - 1055 + 1055 = d / 4503599627370496 by omega] at LD
      have SU := fun w => run_float_arith (P := Tryz.prog) w .sub 22 .f64 d (d / 4503599627370496 * 4503599627370496) c' (Ie.sub_sv hd (by omega) hc2 hs1)
      have hV2 : Hid (Ie.V c' % 2 ^ 1106 = V0) := by
        have h := hV.out
        rw [hs1, hq, Nat.add_comm, Nat.add_mul_mod_self_right] at h
        exact Lib.hid h
      obtain ⟨k, hk⟩ : ∃ k, d / 4503599627370496 - 1055 = k := ⟨_, rfl⟩
      have hk2 : ((d / 4503599627370496 : Nat) : Int) - 1022 = (k : Int) + 33 := by omega
      obtain ⟨P, hP⟩ : ∃ P, d / 4503599627370496 * 4503599627370496 = P := ⟨_, rfl⟩
      have x1 : IntKind.i64.wrap (k : Int) = (k : Int) := IntWalk.i64_in _ (by omega)
      have x2 : (k : Int) + 33 - 33 = (k : Int) := by omega
      rw [hP] at LD SU
      rw [hk] at LD
      rw [hk2] at FR
      have o3 := half_of (f := d % 4503599627370496) (by omega)
      obtain ⟨F, hF⟩ : ∃ F, 4602678819172646912 + d % 4503599627370496 = F := ⟨_, rfl⟩
      rw [hF] at FR o3
      have o2 := geq_of g hd
      have hm : fl (.float .f64 c') < fl (.float .f64 d) := hc1
      clear hF hP hk hk2 hs1 hq g hV
      rcases o2 with o2 | o2 <;> rcases o3 with o3 | o3
      all_goals
        go_wp2_with fail
        refine (FR _).mono ?_
        rintro e w1 ⟨rfl, rfl⟩
        go_wp2_with fail
        refine (LD _).mono ?_
        rintro e w1 ⟨rfl, rfl⟩
        go_wp2
        go_roundw
        case rel => exact ⟨c', rfl, trivial, hc2, hV2⟩
        case measure => exact hm
    · have o2 : FloatKind.f64.format.order d 4751297606875873280 = some .lt := by
        have h := Ft.ord_pos (a := d) (b := 4751297606875873280) hd (by decide)
        rw [h]
        simp only [compare, compareOfLessAndEq]
        rw [if_pos (by omega)]
      have hV3 := Lib.hid ((Rem0 (by omega : d < 4751297606875873280)).symm.trans hV.out)
      have n2 : ∀ w : World, (Op.unary .neg (.float .f64 d)).run Tryz.prog w = .ok (.float .f64 (Ieee.double.word true d)) w := fun w => by
        show Result.ok (Value.float .f64 (Op.negFloat .f64 d)) w = _
        rw [show Op.negFloat .f64 d = _ from Ie.neg_word false (r := d) (by omega)]; rfl
      clear hV
      go_wp2
      go_ret
      exact ⟨⟨d, by omega, hV3.out, rfl⟩, rfl⟩
set_option maxRecDepth 100000 in
/-- THE REMAINDER OF A FLOAT BY 2^32 -/
theorem mod_any (s : Bool) (c : Nat) (w : World) (hc : c < 9218868437227405312) :
    Calls Tryz.prog 27 #[.float .f64 (Ieee.double.word s c), .float .f64 4751297606875873280] w fun e w' => (∃ d, d < 4751297606875873280 ∧ Ie.V d = Ie.V c % 2 ^ 1106 ∧ e = .returned (.float .f64 (Ieee.double.word s d))) ∧ w = w' := by
  have INN : ∀ w : World, Calls Tryz.prog 46 #[.float .f64 (Ieee.double.word s c), .float .f64 4751297606875873280] w fun e w' => (∃ d, d < 4751297606875873280 ∧ Ie.V d = Ie.V c % 2 ^ 1106 ∧ e = .returned (.float .f64 (Ieee.double.word s d))) ∧ w = w' := by
    intro w
    by_cases h0 : 0 < c
    · cases s
      · exact mod_pos c w hc h0 rfl
      · exact mod_neg c _ rfl w hc h0 rfl
    · obtain rfl : c = 0 := by omega
      obtain ⟨x, hx⟩ : ∃ x, Ieee.double.word s 0 = x := ⟨_, rfl⟩
      have hlt : x < 18446744073709551616 := by rw [← hx]; unfold Ieee.Format.word; rw [Ie.d_sign]; split <;> omega
      have hw2 : x % 9223372036854775808 = 0 := by rw [← hx]; exact (Ie.word_split s 0 (by omega)).2
      have IF := fun w => isinf0_any x w hlt
      rw [show inf x = false by unfold inf; rw [hw2, beq_eq_false_iff_ne]; omega] at IF
      have IN := fun w => isnan_any x w hlt
      rw [show Ie.nan x = false by unfold Ie.nan; rw [hw2, decide_eq_false_iff_not]; omega] at IN
      have IY := fun w => isnan_any 4751297606875873280 w (by decide)
      rw [show Ie.nan 4751297606875873280 = false by decide] at IY
      have AB : ∀ w, Calls Tryz.prog 44 #[.float .f64 4751297606875873280] w fun e w' => e = .returned (.float .f64 4751297606875873280) ∧ w = w' := fun w => abs_any 4751297606875873280 w (by decide)
      have FY : ∀ w, Calls Tryz.prog 67 #[.float .f64 4751297606875873280] w fun e w' => e = .returned (.tuple #[.float .f64 4602678819172646912, .int .i64 33]) ∧ w = w' := fun w => frexp_any 4751297606875873280 w (by decide) (by decide)
      have o0 : FloatKind.f64.format.order 4751297606875873280 0 = some .gt := by decide
      have o1 : FloatKind.f64.format.order x 0 = some .eq := by
        have h := Ie.order_rk s false (a := 0) (b := 0) (by omega) (by decide)
        rw [hx] at h
        refine Eq.trans h ?_
        cases s <;> rfl
      have o2 : FloatKind.f64.format.order x 4751297606875873280 = some .lt := by
        have h := Ie.order_rk s false (a := 0) (b := 4751297606875873280) (by omega) (by decide)
        rw [hx] at h
        refine Eq.trans h ?_
        cases s <;> rfl
      have HX := Lib.hid hx
      rw [hx]
      clear hx hlt hw2
      go_enter Tryz.func46, Tryz.ntmps46
      go_wp2_with fail
      refine (IF _).mono ?_
      rintro e w1 ⟨rfl, rfl⟩
      go_wp2_with fail
      refine (IN _).mono ?_
      rintro e w1 ⟨rfl, rfl⟩
      go_wp2_with fail
      refine (IY _).mono ?_
      rintro e w1 ⟨rfl, rfl⟩
      go_wp2_with fail
      refine (AB _).mono ?_
      rintro e w1 ⟨rfl, rfl⟩
      go_wp2_with fail
      refine (FY _).mono ?_
      rintro e w1 ⟨rfl, rfl⟩
      go_wp2
      go_loopw [7] (fun y wr => y = .float .f64 x ∧ w = wr) (fun _ _ => 0)
      case atStart => exact ⟨rfl, rfl⟩
      case round =>
        obtain ⟨rfl, rfl⟩ := hrel
        go_wp2
        go_ret
        exact ⟨⟨0, by omega, by decide +kernel, by rw [HX.out]; rfl⟩, rfl⟩
  go_enter Tryz.func27, Tryz.ntmps27
  go_wp2_with fail
  refine (INN _).mono ?_
  rintro e w1 ⟨⟨d, hd, hv, rfl⟩, rfl⟩
  go_wp2
  go_ret
  exact ⟨⟨d, hd, hv, rfl⟩, rfl⟩
end Mt
end Go.Proofs.YtciigfaojmpoiaaGreatDoor
namespace Go.Proofs.YtciigfaojmpoiaaGreatDoor
open Go Go.RowKit Go.Sort Go.Lib
set_option linter.all false
namespace Mt
set_option exponentiation.threshold 3000
/-- how great the whole part is -/
def wh (b : Nat) : Nat := Ie.V (b % 9223372036854775808) / 2 ^ 1074
/-- a float modulo 2^32 -/
def u32 (b : Nat) : Nat :=
  if Ie.nan b = true ∨ inf b = true then 0
  else if 9223372036854775808 ≤ b then (4294967296 - wh b % 4294967296) % 4294967296 else wh b % 4294967296
theorem fin_word {b : Nat} (hb : b < 18446744073709551616) (h1 : Ie.nan b = false) (h2 : inf b = false) : ∃ s r, r < 9218868437227405312 ∧ b = Ieee.double.word s r ∧ s = decide (9223372036854775808 ≤ b) ∧ r = b % 9223372036854775808 := by
  unfold Ie.nan at h1
  unfold inf at h2
  have h1 := of_decide_eq_false h1
  have h2 := beq_eq_false_iff_ne.1 h2
  exact ⟨_, _, by omega, Ie.word_ex b hb, rfl, rfl⟩
set_option maxRecDepth 100000 in
theorem trunc_any (s : Bool) {r c : Nat} (w : World) (hr : r < 9218868437227405312) (hc : c < 9218868437227405312) (e : Ie.V c = Ie.V r / 2 ^ 1074 * 2 ^ 1074) :
    Calls Tryz.prog 24 #[.float .f64 (Ieee.double.word s r)] w fun e w' => e = .returned (.float .f64 (Ieee.double.word s c)) ∧ w = w' := by
  have h6 := @run_callFunc_extern Tryz.prog 41 _ (Go.Extern.MathFloor.toIntegral "math.archTrunc" .zero) Tryz.func41 (by kernel_rfl) (by kernel_rfl) (by kernel_rfl) (by kernel_rfl)
  have fb : ∀ (w : World), (Go.Extern.MathFloor.toIntegral "math.archTrunc" .zero #[.float .f64 (Ieee.double.word s r)]).run Tryz.prog w = .ok (.float .f64 (Ieee.double.word s c)) w := fun w => by
    have t := Ie.trunc_sv s hr hc e
    obtain ⟨m, k, e1, -⟩ := Ie.read_word s r hr
    unfold Go.Extern.MathFloor.toIntegral
    show (Sem.run Tryz.prog (match FloatKind.f64.decode (Ieee.double.word s r) with | .nan s t => _ | d => _) w) = _
    rw [show FloatKind.f64.decode (Ieee.double.word s r) = Ieee.double.read (Ieee.double.word s r) from rfl, e1]
    rw [e1] at t
    show Result.ok (Value.float .f64 (Ieee.double.write _)) w = _
    rw [t]
  generalize Ieee.double.word s r = x at *
  generalize Ieee.double.word s c = y at *
  clear e hr hc
  go_enter Tryz.func24, Tryz.ntmps24
  go_wp2
  go_ret
  exact ⟨rfl, rfl⟩
set_option maxRecDepth 100000 in
theorem trunc_inf (s : Bool) (w : World) :
    Calls Tryz.prog 24 #[.float .f64 (Ieee.double.word s 9218868437227405312)] w fun e w' => e = .returned (.float .f64 (Ieee.double.word s 9218868437227405312)) ∧ w = w' := by
  have h6 := @run_callFunc_extern Tryz.prog 41 _ (Go.Extern.MathFloor.toIntegral "math.archTrunc" .zero) Tryz.func41 (by kernel_rfl) (by kernel_rfl) (by kernel_rfl) (by kernel_rfl)
  have fb : ∀ (w : World), (Go.Extern.MathFloor.toIntegral "math.archTrunc" .zero #[.float .f64 (Ieee.double.word s 9218868437227405312)]).run Tryz.prog w = .ok (.float .f64 (Ieee.double.word s 9218868437227405312)) w := fun w => by
    unfold Go.Extern.MathFloor.toIntegral
    show (Sem.run Tryz.prog (match FloatKind.f64.decode (Ieee.double.word s 9218868437227405312) with | .nan s t => _ | d => _) w) = _
    rw [show FloatKind.f64.decode (Ieee.double.word s 9218868437227405312) = Ieee.double.read (Ieee.double.word s 9218868437227405312) from rfl, Ie.read_inf]
    rfl
  generalize Ieee.double.word s 9218868437227405312 = x at *
  go_enter Tryz.func24, Tryz.ntmps24
  go_wp2
  go_ret
  exact ⟨rfl, rfl⟩
end Mt
end Go.Proofs.YtciigfaojmpoiaaGreatDoor
namespace Go.Proofs.YtciigfaojmpoiaaGreatDoor
open Go Go.RowKit Go.Sort Go.Lib
set_option linter.all false
namespace Mt
set_option exponentiation.threshold 3000
theorem mod_whole (N : Nat) : N * 2 ^ 1074 % 2 ^ 1106 = N % 4294967296 * 2 ^ 1074 := by
  rw [show (2 : Nat) ^ 1106 = 4294967296 * 2 ^ 1074 by decide +kernel, Nat.mul_mod_mul_right]
theorem to_u32 (s : Bool) {d n : Nat} (hd : d < 9218868437227405312) (hn : n < 4294967296) (h : Ie.V d = n * 2 ^ 1074) (hs : s = true → n = 0) (w : World) : (convert 22 26 (.float .f64 (Ieee.double.word s d))).run Tryz.prog w = .ok (.int .u32 (n : Int)) w := by
  refine run_convert_float_int w 22 26 .f64 .u32 (Ieee.double.word s d) (n : Int) (by kernel_rfl) (by kernel_rfl) ?_
  unfold floatToIntVal
  have t : (FloatKind.f64.decode (Ieee.double.word s d)).toInt .zero = some (n : Int) := by
    show (Ieee.double.read (Ieee.double.word s d)).toInt .zero = _
    rw [Ie.toInt_sv s hd, h, Nat.mul_div_cancel _ (Nat.pow_pos (by decide))]
    cases s
    · rfl
    · rw [hs rfl]; rfl
  rw [t]
  show (if (0 : Int) ≤ n ∧ (n : Int) ≤ 4294967295 then _ else _) = _
  rw [if_pos (by omega)]
theorem v_pos {d : Nat} : Ie.V d = 0 ↔ d = 0 := ⟨fun h => Ie.V_inj (by rw [h]; rfl), fun h => by rw [h]; rfl⟩
set_option maxRecDepth 100000 in
set_option maxHeartbeats 4000000 in
theorem uint32_any (b : Nat) (w : World) (hb : b < 18446744073709551616) : Calls Tryz.prog 13 #[.float .f64 b] w fun e w' => e = .returned (.int .u32 (u32 b : Nat)) ∧ w = w' := by
  rcases gn : Ie.nan b with _ | _
  · have o1 : FloatKind.f64.format.order b b = some .eq := Ie.order_self hb gn
    have IF := fun w => isinf0_any b w hb
    rcases gi : inf b with _ | _
    · obtain ⟨s, r, hr, hx, hs, hr2⟩ := fin_word hb gn gi
      obtain ⟨c, hc, hv, -⟩ := Ie.trunc_has r hr
      have TR := fun w => trunc_any s w hr hc hv
      have MD := fun w => mod_any s c w hc
      rw [← hx] at TR
      simp only [hv, mod_whole] at MD
      have HU : u32 b = if s = true then (4294967296 - Ie.V r / 2 ^ 1074 % 4294967296) % 4294967296 else Ie.V r / 2 ^ 1074 % 4294967296 := by
        unfold u32 wh
        rw [if_neg (by rw [gn, gi]; decide), ← hr2, hs]
        simp only [decide_eq_true_eq]
      have hN : Ie.V r / 2 ^ 1074 % 4294967296 < 4294967296 := Nat.mod_lt _ (by decide)
      obtain ⟨N, hNN⟩ : ∃ N, Ie.V r / 2 ^ 1074 % 4294967296 = N := ⟨_, rfl⟩
      rw [hNN] at HU hN
      simp only [hNN] at MD
      rw [gi] at IF
      generalize Ieee.double.word s c = y at TR MD
      clear hx hr2 hv hc hr gn gi hs hNN
      have MD2 : ∀ w, Calls Tryz.prog 27 #[.float .f64 y, .float .f64 4751297606875873280] w fun e w' => (∃ d, d < 9218868437227405312 ∧ Hid (Ie.V d = N * 2 ^ 1074) ∧ e = .returned (.float .f64 (Ieee.double.word s d))) ∧ w = w' := fun w => (MD w).mono fun e w' h => ⟨h.1.imp fun d k => ⟨by omega, Lib.hid k.2.1, k.2.2⟩, h.2⟩
      clear MD
      by_cases g : s = true ∧ N ≠ 0
      · obtain ⟨rfl, g⟩ := g
        rw [if_pos rfl, Nat.mod_eq_of_lt (by omega)] at HU
        have HU := Lib.hid HU
        go_enter Tryz.func13, Tryz.ntmps13
        go_wp2_with fail
        refine (IF _).mono ?_
        rintro e w1 ⟨rfl, rfl⟩
        go_wp2_with fail
        refine (TR _).mono ?_
        rintro e w1 ⟨rfl, rfl⟩
        go_wp2_with fail
        refine (MD2 _).mono ?_
        rintro e w1 ⟨⟨d, hd, hv, rfl⟩, rfl⟩
        have hv' := hv.out
        have hd0 : d ≠ 0 := by
          intro h
          rw [v_pos.2 h] at hv'
          have := Nat.mul_pos (Nat.pos_of_ne_zero g) (Nat.pow_pos (n := 1074) (show 0 < 2 by decide))
          omega
        have o2 : FloatKind.f64.format.order (Ieee.double.word true d) 0 = some .lt := by
          have h := Ie.order_rk true false (a := d) (b := 0) (by omega) (by decide)
          refine Eq.trans h ?_
          show some (if -(d : Int) < 0 then Ordering.lt else _) = _
          rw [if_pos (by omega)]
        obtain ⟨c2, hc2, hv2⟩ := Ie.has (N := (4294967296 - N) * 2 ^ 1074) rfl (by omega) (by decide)
        have e32 : Ie.V 4751297606875873280 = 4294967296 * 2 ^ 1074 := by decide +kernel
        have SU := fun w => run_float_arith (P := Tryz.prog) w .add 22 .f64 (Ieee.double.word true d) 4751297606875873280 c2 (Ie.add_sv hd (by decide) hc2 (by rw [e32, hv', hv2, ← Nat.add_mul]; congr 1; omega) (by rw [hv2]; exact Nat.mul_pos (by omega) (Nat.pow_pos (by decide))))
        have CV := fun w => to_u32 false (n := 4294967296 - N) hc2 (by omega) hv2 (fun h => by cases h) w
        rw [show Ieee.double.word false c2 = c2 from rfl] at CV
        generalize Ieee.double.word true d = y2 at o2 SU ⊢
        obtain ⟨M, hM⟩ : ∃ M, 4294967296 - N = M := ⟨_, rfl⟩
        simp only [hM] at CV
        clear hv hv' hv2 hd0 hd hc2 e32
        go_wp2
        go_ret
        rw [HU.out, hM]
        exact ⟨rfl, rfl⟩
      · have HU2 : u32 b = N := by
          rw [HU]
          split
          · rename_i hs
            have : N = 0 := by
              by_cases g0 : N = 0
              · exact g0
              · exact absurd ⟨hs, g0⟩ g
            rw [this]
          · rfl
        have HU2 := Lib.hid HU2
        clear HU
        have hs0 : s = true → N = 0 := fun hs => by
          by_cases g0 : N = 0
          · exact g0
          · exact absurd ⟨hs, g0⟩ g
        go_enter Tryz.func13, Tryz.ntmps13
        go_wp2_with fail
        refine (IF _).mono ?_
        rintro e w1 ⟨rfl, rfl⟩
        go_wp2_with fail
        refine (TR _).mono ?_
        rintro e w1 ⟨rfl, rfl⟩
        go_wp2_with fail
        refine (MD2 _).mono ?_
        rintro e w1 ⟨⟨d, hd, hv, rfl⟩, rfl⟩
        have hv' := hv.out
        have CV := fun w => to_u32 s (n := N) hd hN hv' hs0 w
        have o2 : FloatKind.f64.format.order (Ieee.double.word s d) 0 = some .gt ∨ FloatKind.f64.format.order (Ieee.double.word s d) 0 = some .eq := by
          have h := Ie.order_rk s false (a := d) (b := 0) (by omega) (by decide)
          rw [show FloatKind.f64.format.order (Ieee.double.word s d) 0 = _ from h]
          have cmp : ∀ x y : Int, compare x y = if x < y then .lt else if x = y then .eq else .gt := fun x y => rfl
          rw [cmp]
          have hz : s = true → d = 0 := fun hs => by
            rw [hs0 hs, Nat.zero_mul] at hv'
            exact v_pos.1 hv'
          cases s
          · show some (if (d : Int) < 0 then _ else if (d : Int) = 0 then _ else _) = _ ∨ some (if (d : Int) < 0 then _ else if (d : Int) = 0 then _ else _) = _
            rw [if_neg (by omega)]
            split
            · exact .inr rfl
            · exact .inl rfl
          · rw [hz rfl]; exact .inr rfl
        generalize Ieee.double.word s d = y2 at o2 CV ⊢
        clear hv hv' hd hN hs0 g
        rcases o2 with o2 | o2
        all_goals
          go_wp2
          go_ret
          rw [HU2.out]
          exact ⟨rfl, rfl⟩
    · have HU := Lib.hid (show u32 b = 0 by unfold u32; rw [if_pos (.inr gi)])
      rw [gi] at IF
      clear gi gn hb
      go_enter Tryz.func13, Tryz.ntmps13
      go_wp2_with fail
      refine (IF _).mono ?_
      rintro e w1 ⟨rfl, rfl⟩
      go_wp2
      go_ret
      rw [HU.out]
      exact ⟨rfl, rfl⟩
  · have HU := Lib.hid (show u32 b = 0 by unfold u32; rw [if_pos (.inl gn)])
    have o1 : FloatKind.f64.format.order b b = none := Ie.order_nan1 gn b
    clear gn hb
    go_enter Tryz.func13, Tryz.ntmps13
    go_wp2
    go_ret
    rw [HU.out]
    exact ⟨rfl, rfl⟩
end Mt
end Go.Proofs.YtciigfaojmpoiaaGreatDoor
