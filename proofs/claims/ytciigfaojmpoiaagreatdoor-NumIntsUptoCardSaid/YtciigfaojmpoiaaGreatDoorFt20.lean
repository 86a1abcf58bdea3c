/- The document's Parts, Uint32. -/
import Derived.Test.YtciigfaojmpoiaaGreatDoorFtF
namespace Go.Proofs.YtciigfaojmpoiaaGreatDoor
open Go Go.RowKit Go.Sort Go.Lib
set_option linter.all false
namespace Mt
set_option exponentiation.threshold 3000
def qO (r : Nat) : Nat := if r / 4503599627370496 = 0 then r % 4503599627370496 else r % 4503599627370496 + 4503599627370496
def eO (r : Nat) : Int := if r / 4503599627370496 = 0 then -1074 else (r / 4503599627370496 : Nat) - 1075
theorem v_parts {r : Nat} (h : r < 9218868437227405312) : Ie.V r = qO r * 2 ^ (eO r + 1074).toNat ∧ qO r < 9007199254740992 ∧ -1074 ≤ eO r ∧ eO r ≤ 971 := by
  unfold Ie.V qO eO
  by_cases g : r < 4503599627370496
  · have h0 : r / 4503599627370496 = 0 := by omega
    rw [if_pos g, if_pos h0, if_pos h0]
    refine ⟨?_, by omega, by omega, by omega⟩
    rw [show ((-1074 : Int) + 1074).toNat = 0 from rfl, Nat.pow_zero, Nat.mul_one, Nat.mod_eq_of_lt g]
  · have h0 : ¬ r / 4503599627370496 = 0 := by omega
    rw [if_neg g, if_neg h0, if_neg h0]
    refine ⟨?_, by omega, by omega, by omega⟩
    rw [Nat.add_comm, show (((r / 4503599627370496 : Nat) : Int) - 1075 + 1074).toNat = r / 4503599627370496 - 1 by omega]
set_option maxRecDepth 100000 in
theorem parts_any (r : Nat) (w : World) (h : r < 9218868437227405312) : Calls Tryz.prog 28 #[.float .f64 r] w fun e w' => e = .returned (.tuple #[.int .i64 (qO r : Nat), .int .i64 (eO r)]) ∧ w = w' := by
  have h6 := @run_callFunc_extern Tryz.prog 23 _ Go.Extern.MathFloatBits.float64bits Tryz.func23 (by kernel_rfl) (by kernel_rfl) (by kernel_rfl) (by kernel_rfl)
  have fb : ∀ (w : World), (Go.Extern.MathFloatBits.float64bits #[.float .f64 r]).run Tryz.prog w = .ok (.int .u64 (r : Int)) w := fun w => rfl
  have x1 : (r : Int) / 4503599627370496 = ((r / 4503599627370496 : Nat) : Int) := by omega
  have x2 : (r : Int) % 4503599627370496 = ((r % 4503599627370496 : Nat) : Int) := by omega
  have x3 : (r : Int).tmod 4503599627370496 = ((r % 4503599627370496 : Nat) : Int) := by rw [Int.tmod_eq_emod_of_nonneg (by omega)]; omega
  have HQ : qO r = if r / 4503599627370496 = 0 then r % 4503599627370496 else r % 4503599627370496 + 4503599627370496 := rfl
  have HE : eO r = if r / 4503599627370496 = 0 then -1074 else ((r / 4503599627370496 : Nat) : Int) - 1075 := rfl
  have hb1 : r / 4503599627370496 < 2047 := by omega
  have hb2 : r % 4503599627370496 < 4503599627370496 := by omega
  generalize r / 4503599627370496 = ex at *
  generalize r % 4503599627370496 = f at *
  have x4 : IntKind.i64.wrap (ex : Int) = (ex : Int) := IntWalk.i64_in _ (by omega)
  have x5 : IntKind.i64.wrap (f : Int) = (f : Int) := IntWalk.i64_in _ (by omega)
  have x6 : IntKind.i64.wrap ((f : Int) + 4503599627370496) = (f : Int) + 4503599627370496 := IntWalk.i64_in _ (by omega)
  have x7 : IntKind.i64.wrap ((ex : Int) - 1075) = (ex : Int) - 1075 := IntWalk.i64_in _ (by omega)
  by_cases g : ex = 0
  · rw [if_pos g] at HQ HE
    have HQ := Lib.hid HQ
    have HE := Lib.hid HE
    have d1 : ((ex : Int) == 0) = true := by rw [beq_iff_eq]; omega
    clear g hb1 h
    go_enter Tryz.func28, Tryz.ntmps28
    go_wp2
    go_ret2
    rw [HQ.out, HE.out]
    exact ⟨rfl, rfl⟩
  · rw [if_neg g] at HQ HE
    have HQ2 := Lib.hid (show (qO r : Int) = (f : Int) + 4503599627370496 by omega)
    have HE := Lib.hid HE
    have d1 : ((ex : Int) == 0) = false := by rw [beq_eq_false_iff_ne]; omega
    clear g hb1 h HQ
    go_enter Tryz.func28, Tryz.ntmps28
    go_wp2
    go_ret2
    rw [HQ2.out, HE.out]
    exact ⟨rfl, rfl⟩
theorem rk_cmp (x y : Int) : compare x y = if x < y then Ordering.lt else if x = y then .eq else .gt := rfl
theorem rk_lt {s t : Bool} {a b : Nat} (ha : a ≤ 9218868437227405312) (hb : b ≤ 9218868437227405312) (h : Ie.rk s a < Ie.rk t b) : FloatKind.f64.format.order (Ieee.double.word s a) (Ieee.double.word t b) = some .lt := by
  refine (Ie.order_rk s t ha hb).trans ?_
  rw [rk_cmp, if_pos h]
theorem rk_gt {s t : Bool} {a b : Nat} (ha : a ≤ 9218868437227405312) (hb : b ≤ 9218868437227405312) (h : Ie.rk t b < Ie.rk s a) : FloatKind.f64.format.order (Ieee.double.word s a) (Ieee.double.word t b) = some .gt := by
  refine (Ie.order_rk s t ha hb).trans ?_
  rw [rk_cmp, if_neg (by omega), if_neg (by omega)]
theorem rk_eq {s t : Bool} {a b : Nat} (ha : a ≤ 9218868437227405312) (hb : b ≤ 9218868437227405312) (h : Ie.rk s a = Ie.rk t b) : FloatKind.f64.format.order (Ieee.double.word s a) (Ieee.double.word t b) = some .eq := by
  refine (Ie.order_rk s t ha hb).trans ?_
  rw [rk_cmp, if_neg (by omega), if_pos h]
theorem rk_le {s t : Bool} {a b : Nat} (ha : a ≤ 9218868437227405312) (hb : b ≤ 9218868437227405312) (h : Ie.rk s a ≤ Ie.rk t b) : FloatKind.f64.format.order (Ieee.double.word s a) (Ieee.double.word t b) = some .lt ∨ FloatKind.f64.format.order (Ieee.double.word s a) (Ieee.double.word t b) = some .eq := by
  by_cases g : Ie.rk s a < Ie.rk t b
  · exact .inl (rk_lt ha hb g)
  · exact .inr (rk_eq ha hb (by omega))
theorem rk_ge {s t : Bool} {a b : Nat} (ha : a ≤ 9218868437227405312) (hb : b ≤ 9218868437227405312) (h : Ie.rk t b ≤ Ie.rk s a) : FloatKind.f64.format.order (Ieee.double.word s a) (Ieee.double.word t b) = some .gt ∨ FloatKind.f64.format.order (Ieee.double.word s a) (Ieee.double.word t b) = some .eq := by
  by_cases g : Ie.rk t b < Ie.rk s a
  · exact .inl (rk_gt ha hb g)
  · exact .inr (rk_eq ha hb (by omega))
theorem rk_t (r : Nat) : Ie.rk true r = -(r : Int) := rfl
theorem rk_f (r : Nat) : Ie.rk false r = (r : Int) := rfl
/-- a number of bits, moved, cut -/
def sc (u : Nat) (e : Int) : Nat := u * 2 ^ e.toNat / 2 ^ (-e).toNat
theorem sc_down (u : Nat) (e : Int) (h : e < 0) : sc (u / 2) (e + 1) = sc u e := by
  unfold sc
  rw [show e.toNat = 0 by omega, show (e + 1).toNat = 0 by omega, Nat.pow_zero, Nat.mul_one, Nat.mul_one, show (-e).toNat = (-(e + 1)).toNat + 1 by omega, Nat.pow_succ', Nat.div_div_eq_div_mul]
theorem sc_up (u : Nat) (e : Int) (h : 0 < e) : sc (u * 2 % 4294967296) (e - 1) % 4294967296 = sc u e % 4294967296 := by
  unfold sc
  rw [show (-e).toNat = 0 by omega, show (-(e - 1)).toNat = 0 by omega, Nat.pow_zero, Nat.div_one, Nat.div_one, show e.toNat = (e - 1).toNat + 1 by omega, Nat.pow_succ', ← Nat.mul_assoc, Nat.mod_mul_mod]
theorem sc_zero (u : Nat) : sc u 0 = u := by unfold sc; simp
theorem sc_nil (e : Int) : sc 0 e = 0 := by unfold sc; simp
set_option maxRecDepth 100000 in
theorem wh_parts {r : Nat} (h : r < 9218868437227405312) : sc (qO r) (eO r) = Ie.V r / 2 ^ 1074 := by
  obtain ⟨h1, h2, h3, h4⟩ := v_parts h
  obtain ⟨T, hT⟩ : ∃ T : Nat, 1074 = T := ⟨_, rfl⟩
  rw [hT]
  have hT' : (1074 : Int) = (T : Int) := by omega
  rw [hT'] at h1
  have h3 : -(T : Int) ≤ eO r := by omega
  rw [h1]
  unfold sc
  generalize qO r = q
  generalize eO r = e at *
  clear hT hT' h1 h4
  rcases Int.le_total 0 e with g | g
  · rw [show (-e).toNat = 0 by omega, Nat.pow_zero, Nat.div_one, show (e + T).toNat = e.toNat + T by omega, Nat.pow_add, ← Nat.mul_assoc, Nat.mul_div_cancel _ (Nat.pow_pos (by decide))]
  · rw [show e.toNat = 0 by omega, Nat.pow_zero, Nat.mul_one]
    have e2 : (2 : Nat) ^ T = 2 ^ (e + T).toNat * 2 ^ (-e).toNat := by rw [← Nat.pow_add]; exact congrArg (2 ^ ·) (by omega)
    have hp : 0 < 2 ^ (e + T).toNat := Nat.pow_pos (by decide)
    rw [e2]
    generalize 2 ^ (e + T).toNat = A at *
    generalize 2 ^ (-e).toNat = B at *
    rw [Nat.mul_comm q A]
    exact (Nat.mul_div_mul_left q B hp).symm
set_option maxRecDepth 100000 in
set_option maxHeartbeats 16000000 in
theorem ru_pos (r : Nat) (w : World) (hr : r < 9218868437227405312) (h0 : 0 < r) {H : Nat} (hH : Ie.V r / 2 ^ 1074 = H) :
    Calls Tryz.prog 14 #[.float .f64 r] w fun e w' => e = .returned (.int .u32 (H % 4294967296 : Nat)) ∧ w = w' := by
  have PA := fun w => parts_any r w hr
  have hs := wh_parts hr
  rw [hH] at hs
  obtain ⟨-, hq, he0, he1⟩ := v_parts hr
  have o1 : FloatKind.f64.format.order r r = some .eq := Ie.order_self (by omega) (by unfold Ie.nan; rw [decide_eq_false_iff_not]; omega)
  have o2 := rk_le (s := false) (t := false) (a := r) (b := 9218868437227405311) (by omega) (by omega) (by rw [rk_f, rk_f]; omega)
  have o3 := rk_ge (s := false) (t := true) (a := r) (b := 9218868437227405311) (by omega) (by omega) (by rw [rk_f, rk_t]; omega)
  rw [show Ieee.double.word false r = r from rfl] at o2 o3
  rw [show Ieee.double.word false 9218868437227405311 = 9218868437227405311 from rfl] at o2
  rw [show Ieee.double.word true 9218868437227405311 = 18442240474082181119 from rfl] at o3
  have o4 : FloatKind.f64.format.order r 0 = some .gt := by
    rw [Ft.ord_pos hr (by decide)]
    simp only [compare, compareOfLessAndEq]
    rw [if_neg (by omega), if_neg (by omega)]
  have d3 : (FloatKind.f64.format.order r 9218868437227405311 == some Ordering.gt) = false := by rcases o2 with h | h <;> rw [h] <;> rfl
  have d4 : (FloatKind.f64.format.order r 18442240474082181119 == some Ordering.lt) = false := by rcases o3 with h | h <;> rw [h] <;> rfl
  clear o2 o3
  generalize qO r = q at *
  generalize eO r = ee at *
  have z1 : IntKind.u64.wrap (q : Int) = (q : Int) := IntWalk.u64_in _ (by omega)
  clear hH hr h0
  go_enter Tryz.func14, Tryz.ntmps14
  go_wp2_with fail
  refine (PA _).mono ?_
  rintro e w1 ⟨rfl, rfl⟩
  go_wp2
  go_loopw [5, 6] (fun x y wr => ∃ (u : Nat) (e : Int), x = .int .i64 e ∧ y = .int .u64 (u : Int) ∧ w = wr ∧ u < 9007199254740992 ∧ -1074 ≤ e ∧ e ≤ 971 ∧ Hid (sc u e = H)) (fun _ y _ => (intOf y).toNat)
  case atStart => exact ⟨q, ee, rfl, rfl, rfl, hq, he0, he1, Lib.hid hs⟩
  case round =>
    obtain ⟨u, e, rfl, rfl, rfl, hu, hl0, hl1, hv⟩ := hrel
    clear hq he0 he1 z1 hs PA
    by_cases g : e < 0 ∧ 0 < u
    · obtain ⟨g1, g2⟩ := g
      have d1 : decide (e < 0) = true := decide_eq_true g1
      have d2 : decide ((0 : Int) < (u : Int)) = true := by rw [decide_eq_true_eq]; omega
      have x1 : IntKind.i64.wrap (e + 1) = e + 1 := IntWalk.i64_in _ (by omega)
      have x2 : (u : Int) / 2 = ((u / 2 : Nat) : Int) := by omega
      have x3 : (u : Int).tdiv 2 = ((u / 2 : Nat) : Int) := by rw [Int.tdiv_eq_ediv_of_nonneg (by omega)]; omega
      have hv2 := Lib.hid ((sc_down u e g1).trans hv.out)
      have hu2 : u / 2 < 9007199254740992 := by omega
      have hm : u / 2 < u := by omega
      generalize u / 2 = u2 at *
      clear hv
      go_wp2
      go_roundw
      case rel => exact ⟨u2, e + 1, rfl, rfl, trivial, hu2, by omega, by omega, hv2⟩
      case measure => simp [intOf]; omega
    · have hg : 0 ≤ e ∨ u = 0 := by omega
      rcases d1 : decide (e < 0) with _ | _ <;> rcases d2 : decide (0 < u) with _ | _
      all_goals
        first
          | (exfalso; have k1 := of_decide_eq_true d1; have k2 := of_decide_eq_true d2; omega)
          | (go_wp2
             go_loopw [5, 6] (fun x y wr => ∃ (u : Nat) (e : Int), x = .int .i64 e ∧ y = .int .u64 (u : Int) ∧ w = wr ∧ u < 9007199254740992 ∧ -1074 ≤ e ∧ e ≤ 971 ∧ (0 ≤ e ∨ u = 0) ∧ Hid (sc u e % 4294967296 = H % 4294967296)) (fun x _ _ => (intOf x).toNat)
             case atStart => exact ⟨u, e, rfl, rfl, rfl, hu, hl0, hl1, hg, Lib.hid (by rw [hv.out])⟩
             case round =>
               clear d1 d2 g hg hv hu hl0 hl1
               obtain ⟨u, e, rfl, rfl, rfl, hu, hl0, hl1, hg, hv⟩ := hrel
               by_cases g : 0 < e ∧ 0 < u
               · obtain ⟨g1, g2⟩ := g
                 have d1 : decide (0 < e) = true := decide_eq_true g1
                 have d2 : decide ((0 : Int) < (u : Int)) = true := by rw [decide_eq_true_eq]; omega
                 have x1 : IntKind.i64.wrap (e - 1) = e - 1 := IntWalk.i64_in _ (by omega)
                 have x0 : IntKind.u64.wrap ((u : Int) * 2) = (u : Int) * 2 := IntWalk.u64_in _ (by omega)
                 have x2 : (u : Int) * 2 % 4294967296 = ((u * 2 % 4294967296 : Nat) : Int) := by omega
                 have x3 : ((u : Int) * 2).tmod 4294967296 = ((u * 2 % 4294967296 : Nat) : Int) := by rw [Int.tmod_eq_emod_of_nonneg (by omega)]; omega
                 have hv2 := Lib.hid ((sc_up u e g1).trans hv.out)
                 have hu2 : u * 2 % 4294967296 < 9007199254740992 := by omega
                 generalize u * 2 % 4294967296 = u2 at *
                 clear hv hg
                 go_wp2
                 go_roundw
                 case rel => exact ⟨u2, e - 1, rfl, rfl, trivial, hu2, by omega, by omega, by omega, hv2⟩
                 case measure => simp [intOf]; omega
               · have hE : u % 4294967296 = H % 4294967296 := by
                   have h := hv.out
                   rcases (show e = 0 ∨ u = 0 by omega) with k | k
                   · rw [k, sc_zero] at h; exact h
                   · rw [k, sc_nil] at h; rw [k]; exact h
                 have hN : u % 4294967296 < 4294967296 := Nat.mod_lt _ (by decide)
                 have x2 : (u : Int) % 4294967296 = ((H % 4294967296 : Nat) : Int) := by omega
                 have x3 : (u : Int).tmod 4294967296 = ((H % 4294967296 : Nat) : Int) := by rw [Int.tmod_eq_emod_of_nonneg (by omega)]; omega
                 rw [hE] at hN
                 obtain ⟨K, hK⟩ : ∃ K, H % 4294967296 = K := ⟨_, rfl⟩
                 rw [hK] at hN x2 x3
                 have HK := Lib.hid hK
                 clear hE hK hv
                 have y1 : IntKind.u32.wrap (K : Int) = (K : Int) := IntWalk.u32_in _ (by omega)
                 have y2 : IntKind.u64.wrap (4294967296 - (K : Int)) = 4294967296 - (K : Int) := IntWalk.u64_in _ (by omega)
                 have y3 : (4294967296 - (K : Int)) % 4294967296 = (((4294967296 - K) % 4294967296 : Nat) : Int) := by omega
                 have y4 : (4294967296 - (K : Int)).tmod 4294967296 = (((4294967296 - K) % 4294967296 : Nat) : Int) := by rw [Int.tmod_eq_emod_of_nonneg (by omega)]; omega
                 have y5 : IntKind.u32.wrap (((4294967296 - K) % 4294967296 : Nat) : Int) = (((4294967296 - K) % 4294967296 : Nat) : Int) := IntWalk.u32_in _ (by omega)
                 obtain ⟨K2, hK2⟩ : ∃ K2, (4294967296 - K) % 4294967296 = K2 := ⟨_, rfl⟩
                 rw [hK2] at y3 y4 y5
                 have HK2 := Lib.hid hK2
                 clear hK2
                 rcases d1 : decide (0 < e) with _ | _ <;> rcases d2 : decide (0 < u) with _ | _
                 all_goals
                   first
                     | (exfalso; have k1 := of_decide_eq_true d1; have k2 := of_decide_eq_true d2; omega)
                     | (clear hN hg hl0 hl1 g hu
                        go_wp2
                        go_ret
                        try rw [HK.out]
                        try rw [HK2.out]
                        exact ⟨rfl, rfl⟩))
set_option maxRecDepth 100000 in
set_option maxHeartbeats 16000000 in
theorem ru_neg (r : Nat) (x : Nat) (hx : Ieee.double.word true r = x) (w : World) (hr : r < 9218868437227405312) (h0 : 0 < r) {H : Nat} (hH : Ie.V r / 2 ^ 1074 = H) :
    Calls Tryz.prog 14 #[.float .f64 x] w fun e w' => e = .returned (.int .u32 ((4294967296 - H % 4294967296) % 4294967296 : Nat)) ∧ w = w' := by
  have PA := fun w => parts_any r w hr
  have hs := wh_parts hr
  rw [hH] at hs
  obtain ⟨-, hq, he0, he1⟩ := v_parts hr
  have hx2 : x = 9223372036854775808 + r := by rw [← hx]; unfold Ieee.Format.word; rw [Ie.d_sign, if_pos rfl]
  have o1 : FloatKind.f64.format.order x x = some .eq := Ie.order_self (by omega) (by unfold Ie.nan; rw [decide_eq_false_iff_not]; omega)
  have o2 := rk_le (s := true) (t := false) (a := r) (b := 9218868437227405311) (by omega) (by omega) (by rw [rk_t, rk_f]; omega)
  have o3 := rk_ge (s := true) (t := true) (a := r) (b := 9218868437227405311) (by omega) (by omega) (by rw [rk_t, rk_t]; omega)
  rw [hx] at o2 o3
  rw [show Ieee.double.word false 9218868437227405311 = 9218868437227405311 from rfl] at o2
  rw [show Ieee.double.word true 9218868437227405311 = 18442240474082181119 from rfl] at o3
  have o4 : FloatKind.f64.format.order x 0 = some .lt := by
    have h := Ie.order_rk true false (a := r) (b := 0) (by omega) (by decide)
    rw [hx] at h
    refine Eq.trans h ?_
    show some (if -(r : Int) < 0 then Ordering.lt else _) = _
    rw [if_pos (by omega)]
  have n1 : ∀ w : World, (Op.unary .neg (.float .f64 x)).run Tryz.prog w = .ok (.float .f64 r) w := fun w => by
    show Result.ok (Value.float .f64 (Op.negFloat .f64 x)) w = _
    rw [← hx, Ie.neg_word true (by omega)]; rfl
  have d3 : (FloatKind.f64.format.order x 9218868437227405311 == some Ordering.gt) = false := by rcases o2 with h | h <;> rw [h] <;> rfl
  have d4 : (FloatKind.f64.format.order x 18442240474082181119 == some Ordering.lt) = false := by rcases o3 with h | h <;> rw [h] <;> rfl
  clear o2 o3
  clear hx2 hx
  generalize qO r = q at *
  generalize eO r = ee at *
  have z1 : IntKind.u64.wrap (q : Int) = (q : Int) := IntWalk.u64_in _ (by omega)
  clear hH hr h0
  go_enter Tryz.func14, Tryz.ntmps14
  go_wp2_with fail
  refine (PA _).mono ?_
  rintro e w1 ⟨rfl, rfl⟩
  go_wp2
  go_loopw [5, 6] (fun x y wr => ∃ (u : Nat) (e : Int), x = .int .i64 e ∧ y = .int .u64 (u : Int) ∧ w = wr ∧ u < 9007199254740992 ∧ -1074 ≤ e ∧ e ≤ 971 ∧ Hid (sc u e = H)) (fun _ y _ => (intOf y).toNat)
  case atStart => exact ⟨q, ee, rfl, rfl, rfl, hq, he0, he1, Lib.hid hs⟩
  case round =>
    obtain ⟨u, e, rfl, rfl, rfl, hu, hl0, hl1, hv⟩ := hrel
    clear hq he0 he1 z1 hs PA
    by_cases g : e < 0 ∧ 0 < u
    · obtain ⟨g1, g2⟩ := g
      have d1 : decide (e < 0) = true := decide_eq_true g1
      have d2 : decide ((0 : Int) < (u : Int)) = true := by rw [decide_eq_true_eq]; omega
      have x1 : IntKind.i64.wrap (e + 1) = e + 1 := IntWalk.i64_in _ (by omega)
      have x2 : (u : Int) / 2 = ((u / 2 : Nat) : Int) := by omega
      have x3 : (u : Int).tdiv 2 = ((u / 2 : Nat) : Int) := by rw [Int.tdiv_eq_ediv_of_nonneg (by omega)]; omega
      have hv2 := Lib.hid ((sc_down u e g1).trans hv.out)
      have hu2 : u / 2 < 9007199254740992 := by omega
      have hm : u / 2 < u := by omega
      generalize u / 2 = u2 at *
      clear hv
      go_wp2
      go_roundw
      case rel => exact ⟨u2, e + 1, rfl, rfl, trivial, hu2, by omega, by omega, hv2⟩
      case measure => simp [intOf]; omega
    · have hg : 0 ≤ e ∨ u = 0 := by omega
      rcases d1 : decide (e < 0) with _ | _ <;> rcases d2 : decide (0 < u) with _ | _
      all_goals
        first
          | (exfalso; have k1 := of_decide_eq_true d1; have k2 := of_decide_eq_true d2; omega)
          | (go_wp2
             go_loopw [5, 6] (fun x y wr => ∃ (u : Nat) (e : Int), x = .int .i64 e ∧ y = .int .u64 (u : Int) ∧ w = wr ∧ u < 9007199254740992 ∧ -1074 ≤ e ∧ e ≤ 971 ∧ (0 ≤ e ∨ u = 0) ∧ Hid (sc u e % 4294967296 = H % 4294967296)) (fun x _ _ => (intOf x).toNat)
             case atStart => exact ⟨u, e, rfl, rfl, rfl, hu, hl0, hl1, hg, Lib.hid (by rw [hv.out])⟩
             case round =>
               clear d1 d2 g hg hv hu hl0 hl1
               obtain ⟨u, e, rfl, rfl, rfl, hu, hl0, hl1, hg, hv⟩ := hrel
               by_cases g : 0 < e ∧ 0 < u
               · obtain ⟨g1, g2⟩ := g
                 have d1 : decide (0 < e) = true := decide_eq_true g1
                 have d2 : decide ((0 : Int) < (u : Int)) = true := by rw [decide_eq_true_eq]; omega
                 have x1 : IntKind.i64.wrap (e - 1) = e - 1 := IntWalk.i64_in _ (by omega)
                 have x0 : IntKind.u64.wrap ((u : Int) * 2) = (u : Int) * 2 := IntWalk.u64_in _ (by omega)
                 have x2 : (u : Int) * 2 % 4294967296 = ((u * 2 % 4294967296 : Nat) : Int) := by omega
                 have x3 : ((u : Int) * 2).tmod 4294967296 = ((u * 2 % 4294967296 : Nat) : Int) := by rw [Int.tmod_eq_emod_of_nonneg (by omega)]; omega
                 have hv2 := Lib.hid ((sc_up u e g1).trans hv.out)
                 have hu2 : u * 2 % 4294967296 < 9007199254740992 := by omega
                 generalize u * 2 % 4294967296 = u2 at *
                 clear hv hg
                 go_wp2
                 go_roundw
                 case rel => exact ⟨u2, e - 1, rfl, rfl, trivial, hu2, by omega, by omega, by omega, hv2⟩
                 case measure => simp [intOf]; omega
               · have hE : u % 4294967296 = H % 4294967296 := by
                   have h := hv.out
                   rcases (show e = 0 ∨ u = 0 by omega) with k | k
                   · rw [k, sc_zero] at h; exact h
                   · rw [k, sc_nil] at h; rw [k]; exact h
                 have hN : u % 4294967296 < 4294967296 := Nat.mod_lt _ (by decide)
                 have x2 : (u : Int) % 4294967296 = ((H % 4294967296 : Nat) : Int) := by omega
                 have x3 : (u : Int).tmod 4294967296 = ((H % 4294967296 : Nat) : Int) := by rw [Int.tmod_eq_emod_of_nonneg (by omega)]; omega
                 rw [hE] at hN
                 obtain ⟨K, hK⟩ : ∃ K, H % 4294967296 = K := ⟨_, rfl⟩
                 rw [hK] at hN x2 x3
                 have HK := Lib.hid hK
                 clear hE hK hv
                 have y1 : IntKind.u32.wrap (K : Int) = (K : Int) := IntWalk.u32_in _ (by omega)
                 have y2 : IntKind.u64.wrap (4294967296 - (K : Int)) = 4294967296 - (K : Int) := IntWalk.u64_in _ (by omega)
                 have y3 : (4294967296 - (K : Int)) % 4294967296 = (((4294967296 - K) % 4294967296 : Nat) : Int) := by omega
                 have y4 : (4294967296 - (K : Int)).tmod 4294967296 = (((4294967296 - K) % 4294967296 : Nat) : Int) := by rw [Int.tmod_eq_emod_of_nonneg (by omega)]; omega
                 have y5 : IntKind.u32.wrap (((4294967296 - K) % 4294967296 : Nat) : Int) = (((4294967296 - K) % 4294967296 : Nat) : Int) := IntWalk.u32_in _ (by omega)
                 obtain ⟨K2, hK2⟩ : ∃ K2, (4294967296 - K) % 4294967296 = K2 := ⟨_, rfl⟩
                 rw [hK2] at y3 y4 y5
                 have HK2 := Lib.hid hK2
                 clear hK2
                 rcases d1 : decide (0 < e) with _ | _ <;> rcases d2 : decide (0 < u) with _ | _
                 all_goals
                   first
                     | (exfalso; have k1 := of_decide_eq_true d1; have k2 := of_decide_eq_true d2; omega)
                     | (clear hN hg hl0 hl1 g hu
                        go_wp2
                        go_ret
                        try rw [HK.out]
                        try rw [HK2.out]
                        exact ⟨rfl, rfl⟩))
end Mt
end Go.Proofs.YtciigfaojmpoiaaGreatDoor
