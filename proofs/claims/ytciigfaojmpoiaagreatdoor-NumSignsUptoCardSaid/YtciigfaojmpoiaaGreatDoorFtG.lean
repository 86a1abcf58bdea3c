/- The document's Parts, Uint32. Uint32, Int32, Same: the program's and the document's, at every float. esnum.Whole and the document's. The document's Whole. -/
import Derived.Test.YtciigfaojmpoiaaGreatDoorFtF
namespace Go.Proofs.YtciigfaojmpoiaaGreatDoor
open Go Go.RowKit Go.Sort Go.Lib
set_option linter.all false
namespace Mt
set_option exponentiation.threshold 3000
def qO (r : Nat) : Nat := if r / 4503599627370496 = 0 then r % 4503599627370496 else r % 4503599627370496 + 4503599627370496
def eO (r : Nat) : Int := if r / 4503599627370496 = 0 then -1074 else (r / 4503599627370496 : Nat) - 1075
theorem v_parts {r : Nat} (h : r < 9218868437227405312) : Ie.V r = qO r * 2 ^ (eO r + 1074).toNat ∧ qO r < 9007199254740992 ∧ -1074 ≤ eO r ∧ eO r ≤ 971 := by
  unfold Ie.V qO eO
  by_cases g : r < 4503599627370496
  · have h0 : r / 4503599627370496 = 0 := by omega
    rw [if_pos g, if_pos h0, if_pos h0]
    refine ⟨?_, by omega, by omega, by omega⟩
    rw [show ((-1074 : Int) + 1074).toNat = 0 from rfl, Nat.pow_zero, Nat.mul_one, Nat.mod_eq_of_lt g]
  · have h0 : ¬ r / 4503599627370496 = 0 := by omega
    rw [if_neg g, if_neg h0, if_neg h0]
    refine ⟨?_, by omega, by omega, by omega⟩
    rw [Nat.add_comm, show (((r / 4503599627370496 : Nat) : Int) - 1075 + 1074).toNat = r / 4503599627370496 - 1 by omega]
set_option maxRecDepth 100000 in
theorem parts_any (r : Nat) (w : World) (h : r < 9218868437227405312) : Calls Tryz.prog 28 #[.float .f64 r] w fun e w' => e = .returned (.tuple #[.int .i64 (qO r : Nat), .int .i64 (eO r)]) ∧ w = w' := by
  have h6 := @run_callFunc_extern Tryz.prog 23 _ Go.Extern.MathFloatBits.float64bits Tryz.func23 (by kernel_rfl) (by kernel_rfl) (by kernel_rfl) (by kernel_rfl)
  have fb : ∀ (w : World), (Go.Extern.MathFloatBits.float64bits #[.float .f64 r]).run Tryz.prog w = .ok (.int .u64 (r : Int)) w := fun w => rfl
  have x1 : (r : Int) / 4503599627370496 = ((r / 4503599627370496 : Nat) : Int) := by omega
  have x2 : (r : Int) % 4503599627370496 = ((r % 4503599627370496 : Nat) : Int) := by omega
  have x3 : (r : Int).tmod 4503599627370496 = ((r % 4503599627370496 : Nat) : Int) := by rw [Int.tmod_eq_emod_of_nonneg (by omega)]; omega
  have HQ : qO r = if r / 4503599627370496 = 0 then r % 4503599627370496 else r % 4503599627370496 + 4503599627370496 := rfl
  have HE : eO r = if r / 4503599627370496 = 0 then -1074 else ((r / 4503599627370496 : Nat) : Int) - 1075 := rfl
  have hb1 : r / 4503599627370496 < 2047 := by omega
  have hb2 : r % 4503599627370496 < 4503599627370496 := by omega
  generalize r / 4503599627370496 = ex at *
  generalize r % 4503599627370496 = f at *
  have x4 : IntKind.i64.wrap (ex : Int) = (ex : Int) := IntWalk.i64_in _ (by omega)
  have x5 : IntKind.i64.wrap (f : Int) = (f : Int) := IntWalk.i64_in _ (by omega)
  have x6 : IntKind.i64.wrap ((f : Int) + 4503599627370496) = (f : Int) + 4503599627370496 := IntWalk.i64_in _ (by omega)
  have x7 : IntKind.i64.wrap ((ex : Int) - 1075) = (ex : Int) - 1075 := IntWalk.i64_in _ (by omega)
  by_cases g : ex = 0
  · rw [if_pos g] at HQ HE
    have HQ := Lib.hid HQ
    have HE := Lib.hid HE
    have d1 : ((ex : Int) == 0) = true := by rw [beq_iff_eq]; omega
    clear g hb1 h
    go_enter Tryz.func28, Tryz.ntmps28
    go_wp2
    go_ret2
    rw [HQ.out, HE.out]
    exact ⟨rfl, rfl⟩
  · rw [if_neg g] at HQ HE
    have HQ2 := Lib.hid (show (qO r : Int) = (f : Int) + 4503599627370496 by omega)
    have HE := Lib.hid HE
    have d1 : ((ex : Int) == 0) = false := by rw [beq_eq_false_iff_ne]; omega
    clear g hb1 h HQ
    go_enter Tryz.func28, Tryz.ntmps28
    go_wp2
    go_ret2
    rw [HQ2.out, HE.out]
    exact ⟨rfl, rfl⟩
theorem rk_cmp (x y : Int) : compare x y = if x < y then Ordering.lt else if x = y then .eq else .gt := rfl
theorem rk_lt {s t : Bool} {a b : Nat} (ha : a ≤ 9218868437227405312) (hb : b ≤ 9218868437227405312) (h : Ie.rk s a < Ie.rk t b) : FloatKind.f64.format.order (Ieee.double.word s a) (Ieee.double.word t b) = some .lt := by
  refine (Ie.order_rk s t ha hb).trans ?_
  rw [rk_cmp, if_pos h]
theorem rk_gt {s t : Bool} {a b : Nat} (ha : a ≤ 9218868437227405312) (hb : b ≤ 9218868437227405312) (h : Ie.rk t b < Ie.rk s a) : FloatKind.f64.format.order (Ieee.double.word s a) (Ieee.double.word t b) = some .gt := by
  refine (Ie.order_rk s t ha hb).trans ?_
  rw [rk_cmp, if_neg (by omega), if_neg (by omega)]
theorem rk_eq {s t : Bool} {a b : Nat} (ha : a ≤ 9218868437227405312) (hb : b ≤ 9218868437227405312) (h : Ie.rk s a = Ie.rk t b) : FloatKind.f64.format.order (Ieee.double.word s a) (Ieee.double.word t b) = some .eq := by
  refine (Ie.order_rk s t ha hb).trans ?_
  rw [rk_cmp, if_neg (by omega), if_pos h]
theorem rk_le {s t : Bool} {a b : Nat} (ha : a ≤ 9218868437227405312) (hb : b ≤ 9218868437227405312) (h : Ie.rk s a ≤ Ie.rk t b) : FloatKind.f64.format.order (Ieee.double.word s a) (Ieee.double.word t b) = some .lt ∨ FloatKind.f64.format.order (Ieee.double.word s a) (Ieee.double.word t b) = some .eq := by
  by_cases g : Ie.rk s a < Ie.rk t b
  · exact .inl (rk_lt ha hb g)
  · exact .inr (rk_eq ha hb (by omega))
theorem rk_ge {s t : Bool} {a b : Nat} (ha : a ≤ 9218868437227405312) (hb : b ≤ 9218868437227405312) (h : Ie.rk t b ≤ Ie.rk s a) : FloatKind.f64.format.order (Ieee.double.word s a) (Ieee.double.word t b) = some .gt ∨ FloatKind.f64.format.order (Ieee.double.word s a) (Ieee.double.word t b) = some .eq := by
  by_cases g : Ie.rk t b < Ie.rk s a
  · exact .inl (rk_gt ha hb g)
  · exact .inr (rk_eq ha hb (by omega))
theorem rk_t (r : Nat) : Ie.rk true r = -(r : Int) := rfl
theorem rk_f (r : Nat) : Ie.rk false r = (r : Int) := rfl
/-- a number of bits, moved, cut -/
def sc (u : Nat) (e : Int) : Nat := u * 2 ^ e.toNat / 2 ^ (-e).toNat
theorem sc_down (u : Nat) (e : Int) (h : e < 0) : sc (u / 2) (e + 1) = sc u e := by
  unfold sc
  rw [show e.toNat = 0 by omega, show (e + 1).toNat = 0 by omega, Nat.pow_zero, Nat.mul_one, Nat.mul_one, show (-e).toNat = (-(e + 1)).toNat + 1 by omega, Nat.pow_succ', Nat.div_div_eq_div_mul]
theorem sc_up (u : Nat) (e : Int) (h : 0 < e) : sc (u * 2 % 4294967296) (e - 1) % 4294967296 = sc u e % 4294967296 := by
  unfold sc
  rw [show (-e).toNat = 0 by omega, show (-(e - 1)).toNat = 0 by omega, Nat.pow_zero, Nat.div_one, Nat.div_one, show e.toNat = (e - 1).toNat + 1 by omega, Nat.pow_succ', ← Nat.mul_assoc, Nat.mod_mul_mod]
theorem sc_zero (u : Nat) : sc u 0 = u := by unfold sc; simp
theorem sc_nil (e : Int) : sc 0 e = 0 := by unfold sc; simp
set_option maxRecDepth 100000 in
theorem wh_parts {r : Nat} (h : r < 9218868437227405312) : sc (qO r) (eO r) = Ie.V r / 2 ^ 1074 := by
  obtain ⟨h1, h2, h3, h4⟩ := v_parts h
  obtain ⟨T, hT⟩ : ∃ T : Nat, 1074 = T := ⟨_, rfl⟩
  rw [hT]
  have hT' : (1074 : Int) = (T : Int) := by omega
  rw [hT'] at h1
  have h3 : -(T : Int) ≤ eO r := by omega
  rw [h1]
  unfold sc
  generalize qO r = q
  generalize eO r = e at *
  clear hT hT' h1 h4
  rcases Int.le_total 0 e with g | g
  · rw [show (-e).toNat = 0 by omega, Nat.pow_zero, Nat.div_one, show (e + T).toNat = e.toNat + T by omega, Nat.pow_add, ← Nat.mul_assoc, Nat.mul_div_cancel _ (Nat.pow_pos (by decide))]
  · rw [show e.toNat = 0 by omega, Nat.pow_zero, Nat.mul_one]
    have e2 : (2 : Nat) ^ T = 2 ^ (e + T).toNat * 2 ^ (-e).toNat := by rw [← Nat.pow_add]; exact congrArg (2 ^ ·) (by omega)
    have hp : 0 < 2 ^ (e + T).toNat := Nat.pow_pos (by decide)
    rw [e2]
    generalize 2 ^ (e + T).toNat = A at *
    generalize 2 ^ (-e).toNat = B at *
    rw [Nat.mul_comm q A]
    exact (Nat.mul_div_mul_left q B hp).symm
set_option maxRecDepth 100000 in
set_option maxHeartbeats 16000000 in
theorem ru_pos (r : Nat) (w : World) (hr : r < 9218868437227405312) (h0 : 0 < r) {H : Nat} (hH : Ie.V r / 2 ^ 1074 = H) :
    Calls Tryz.prog 14 #[.float .f64 r] w fun e w' => e = .returned (.int .u32 (H % 4294967296 : Nat)) ∧ w = w' := by
  have PA := fun w => parts_any r w hr
  have hs := wh_parts hr
  rw [hH] at hs
  obtain ⟨-, hq, he0, he1⟩ := v_parts hr
  have o1 : FloatKind.f64.format.order r r = some .eq := Ie.order_self (by omega) (by unfold Ie.nan; rw [decide_eq_false_iff_not]; omega)
  have o2 := rk_le (s := false) (t := false) (a := r) (b := 9218868437227405311) (by omega) (by omega) (by rw [rk_f, rk_f]; omega)
  have o3 := rk_ge (s := false) (t := true) (a := r) (b := 9218868437227405311) (by omega) (by omega) (by rw [rk_f, rk_t]; omega)
  rw [show Ieee.double.word false r = r from rfl] at o2 o3
  rw [show Ieee.double.word false 9218868437227405311 = 9218868437227405311 from rfl] at o2
  rw [show Ieee.double.word true 9218868437227405311 = 18442240474082181119 from rfl] at o3
  have o4 : FloatKind.f64.format.order r 0 = some .gt := by
    rw [Ft.ord_pos hr (by decide)]
    simp only [compare, compareOfLessAndEq]
    rw [if_neg (by omega), if_neg (by omega)]
  have d3 : (FloatKind.f64.format.order r 9218868437227405311 == some Ordering.gt) = false := by rcases o2 with h | h <;> rw [h] <;> rfl
  have d4 : (FloatKind.f64.format.order r 18442240474082181119 == some Ordering.lt) = false := by rcases o3 with h | h <;> rw [h] <;> rfl
  clear o2 o3
  generalize qO r = q at *
  generalize eO r = ee at *
  have z1 : IntKind.u64.wrap (q : Int) = (q : Int) := IntWalk.u64_in _ (by omega)
  clear hH hr h0
  go_enter Tryz.func14, Tryz.ntmps14
  go_wp2_with fail
  refine (PA _).mono ?_
  rintro e w1 ⟨rfl, rfl⟩
  go_wp2
  go_loopw [5, 6] (fun x y wr => ∃ (u : Nat) (e : Int), x = .int .i64 e ∧ y = .int .u64 (u : Int) ∧ w = wr ∧ u < 9007199254740992 ∧ -1074 ≤ e ∧ e ≤ 971 ∧ Hid (sc u e = H)) (fun _ y _ => (intOf y).toNat)
  case atStart => exact ⟨q, ee, rfl, rfl, rfl, hq, he0, he1, Lib.hid hs⟩
  case round =>
    obtain ⟨u, e, rfl, rfl, rfl, hu, hl0, hl1, hv⟩ := hrel
    clear hq he0 he1 z1 hs PA
    by_cases g : e < 0 ∧ 0 < u
    · obtain ⟨g1, g2⟩ := g
      have d1 : decide (e < 0) = true := decide_eq_true g1
      have d2 : decide ((0 : Int) < (u : Int)) = true := by rw [decide_eq_true_eq]; omega
      have x1 : IntKind.i64.wrap (e + 1) = e + 1 := IntWalk.i64_in _ (by omega)
      have x2 : (u : Int) / 2 = ((u / 2 : Nat) : Int) := by omega
      have x3 : (u : Int).tdiv 2 = ((u / 2 : Nat) : Int) := by rw [Int.tdiv_eq_ediv_of_nonneg (by omega)]; omega
      have hv2 := Lib.hid ((sc_down u e g1).trans hv.out)
      have hu2 : u / 2 < 9007199254740992 := by omega
      have hm : u / 2 < u := by omega
      generalize u / 2 = u2 at *
      clear hv
      go_wp2
      go_roundw
      case rel => exact ⟨u2, e + 1, rfl, rfl, trivial, hu2, by omega, by omega, hv2⟩
      case measure => simp [intOf]; omega
    · have hg : 0 ≤ e ∨ u = 0 := by omega
      rcases d1 : decide (e < 0) with _ | _ <;> rcases d2 : decide (0 < u) with _ | _
      all_goals
        first
          | (exfalso; have k1 := of_decide_eq_true d1; have k2 := of_decide_eq_true d2; omega)
          | (go_wp2
             go_loopw [5, 6] (fun x y wr => ∃ (u : Nat) (e : Int), x = .int .i64 e ∧ y = .int .u64 (u : Int) ∧ w = wr ∧ u < 9007199254740992 ∧ -1074 ≤ e ∧ e ≤ 971 ∧ (0 ≤ e ∨ u = 0) ∧ Hid (sc u e % 4294967296 = H % 4294967296)) (fun x _ _ => (intOf x).toNat)
             case atStart => exact ⟨u, e, rfl, rfl, rfl, hu, hl0, hl1, hg, Lib.hid (by rw [hv.out])⟩
             case round =>
               clear d1 d2 g hg hv hu hl0 hl1
               obtain ⟨u, e, rfl, rfl, rfl, hu, hl0, hl1, hg, hv⟩ := hrel
               by_cases g : 0 < e ∧ 0 < u
               · obtain ⟨g1, g2⟩ := g
                 have d1 : decide (0 < e) = true := decide_eq_true g1
                 have d2 : decide ((0 : Int) < (u : Int)) = true := by rw [decide_eq_true_eq]; omega
                 have x1 : IntKind.i64.wrap (e - 1) = e - 1 := IntWalk.i64_in _ (by omega)
                 have x0 : IntKind.u64.wrap ((u : Int) * 2) = (u : Int) * 2 := IntWalk.u64_in _ (by omega)
                 have x2 : (u : Int) * 2 % 4294967296 = ((u * 2 % 4294967296 : Nat) : Int) := by omega
                 have x3 : ((u : Int) * 2).tmod 4294967296 = ((u * 2 % 4294967296 : Nat) : Int) := by rw [Int.tmod_eq_emod_of_nonneg (by omega)]; omega
                 have hv2 := Lib.hid ((sc_up u e g1).trans hv.out)
                 have hu2 : u * 2 % 4294967296 < 9007199254740992 := by omega
                 generalize u * 2 % 4294967296 = u2 at *
                 clear hv hg
                 go_wp2
                 go_roundw
                 case rel => exact ⟨u2, e - 1, rfl, rfl, trivial, hu2, by omega, by omega, by omega, hv2⟩
                 case measure => simp [intOf]; omega
               · have hE : u % 4294967296 = H % 4294967296 := by
                   have h := hv.out
                   rcases (show e = 0 ∨ u = 0 by omega) with k | k
                   · rw [k, sc_zero] at h; exact h
                   · rw [k, sc_nil] at h; rw [k]; exact h
                 have hN : u % 4294967296 < 4294967296 := Nat.mod_lt _ (by decide)
                 have x2 : (u : Int) % 4294967296 = ((H % 4294967296 : Nat) : Int) := by omega
                 have x3 : (u : Int).tmod 4294967296 = ((H % 4294967296 : Nat) : Int) := by rw [Int.tmod_eq_emod_of_nonneg (by omega)]; omega
                 rw [hE] at hN
                 obtain ⟨K, hK⟩ : ∃ K, H % 4294967296 = K := ⟨_, rfl⟩
                 rw [hK] at hN x2 x3
                 have HK := Lib.hid hK
                 clear hE hK hv
                 have y1 : IntKind.u32.wrap (K : Int) = (K : Int) := IntWalk.u32_in _ (by omega)
                 have y2 : IntKind.u64.wrap (4294967296 - (K : Int)) = 4294967296 - (K : Int) := IntWalk.u64_in _ (by omega)
                 have y3 : (4294967296 - (K : Int)) % 4294967296 = (((4294967296 - K) % 4294967296 : Nat) : Int) := by omega
                 have y4 : (4294967296 - (K : Int)).tmod 4294967296 = (((4294967296 - K) % 4294967296 : Nat) : Int) := by rw [Int.tmod_eq_emod_of_nonneg (by omega)]; omega
                 have y5 : IntKind.u32.wrap (((4294967296 - K) % 4294967296 : Nat) : Int) = (((4294967296 - K) % 4294967296 : Nat) : Int) := IntWalk.u32_in _ (by omega)
                 obtain ⟨K2, hK2⟩ : ∃ K2, (4294967296 - K) % 4294967296 = K2 := ⟨_, rfl⟩
                 rw [hK2] at y3 y4 y5
                 have HK2 := Lib.hid hK2
                 clear hK2
                 rcases d1 : decide (0 < e) with _ | _ <;> rcases d2 : decide (0 < u) with _ | _
                 all_goals
                   first
                     | (exfalso; have k1 := of_decide_eq_true d1; have k2 := of_decide_eq_true d2; omega)
                     | (clear hN hg hl0 hl1 g hu
                        go_wp2
                        go_ret
                        try rw [HK.out]
                        try rw [HK2.out]
                        exact ⟨rfl, rfl⟩))
set_option maxRecDepth 100000 in
set_option maxHeartbeats 16000000 in
theorem ru_neg (r : Nat) (x : Nat) (hx : Ieee.double.word true r = x) (w : World) (hr : r < 9218868437227405312) (h0 : 0 < r) {H : Nat} (hH : Ie.V r / 2 ^ 1074 = H) :
    Calls Tryz.prog 14 #[.float .f64 x] w fun e w' => e = .returned (.int .u32 ((4294967296 - H % 4294967296) % 4294967296 : Nat)) ∧ w = w' := by
  have PA := fun w => parts_any r w hr
  have hs := wh_parts hr
  rw [hH] at hs
  obtain ⟨-, hq, he0, he1⟩ := v_parts hr
  have hx2 : x = 9223372036854775808 + r := by rw [← hx]; unfold Ieee.Format.word; rw [Ie.d_sign, if_pos rfl]
  have o1 : FloatKind.f64.format.order x x = some .eq := Ie.order_self (by omega) (by unfold Ie.nan; rw [decide_eq_false_iff_not]; omega)
  have o2 := rk_le (s := true) (t := false) (a := r) (b := 9218868437227405311) (by omega) (by omega) (by rw [rk_t, rk_f]; omega)
  have o3 := rk_ge (s := true) (t := true) (a := r) (b := 9218868437227405311) (by omega) (by omega) (by rw [rk_t, rk_t]; omega)
  rw [hx] at o2 o3
  rw [show Ieee.double.word false 9218868437227405311 = 9218868437227405311 from rfl] at o2
  rw [show Ieee.double.word true 9218868437227405311 = 18442240474082181119 from rfl] at o3
  have o4 : FloatKind.f64.format.order x 0 = some .lt := by
    have h := Ie.order_rk true false (a := r) (b := 0) (by omega) (by decide)
    rw [hx] at h
    refine Eq.trans h ?_
    show some (if -(r : Int) < 0 then Ordering.lt else _) = _
    rw [if_pos (by omega)]
  have n1 : ∀ w : World, (Op.unary .neg (.float .f64 x)).run Tryz.prog w = .ok (.float .f64 r) w := fun w => by
    show Result.ok (Value.float .f64 (Op.negFloat .f64 x)) w = _
    rw [← hx, Ie.neg_word true (by omega)]; rfl
  have d3 : (FloatKind.f64.format.order x 9218868437227405311 == some Ordering.gt) = false := by rcases o2 with h | h <;> rw [h] <;> rfl
  have d4 : (FloatKind.f64.format.order x 18442240474082181119 == some Ordering.lt) = false := by rcases o3 with h | h <;> rw [h] <;> rfl
  clear o2 o3
  clear hx2 hx
  generalize qO r = q at *
  generalize eO r = ee at *
  have z1 : IntKind.u64.wrap (q : Int) = (q : Int) := IntWalk.u64_in _ (by omega)
  clear hH hr h0
  go_enter Tryz.func14, Tryz.ntmps14
  go_wp2_with fail
  refine (PA _).mono ?_
  rintro e w1 ⟨rfl, rfl⟩
  go_wp2
  go_loopw [5, 6] (fun x y wr => ∃ (u : Nat) (e : Int), x = .int .i64 e ∧ y = .int .u64 (u : Int) ∧ w = wr ∧ u < 9007199254740992 ∧ -1074 ≤ e ∧ e ≤ 971 ∧ Hid (sc u e = H)) (fun _ y _ => (intOf y).toNat)
  case atStart => exact ⟨q, ee, rfl, rfl, rfl, hq, he0, he1, Lib.hid hs⟩
  case round =>
    obtain ⟨u, e, rfl, rfl, rfl, hu, hl0, hl1, hv⟩ := hrel
    clear hq he0 he1 z1 hs PA
    by_cases g : e < 0 ∧ 0 < u
    · obtain ⟨g1, g2⟩ := g
      have d1 : decide (e < 0) = true := decide_eq_true g1
      have d2 : decide ((0 : Int) < (u : Int)) = true := by rw [decide_eq_true_eq]; omega
      have x1 : IntKind.i64.wrap (e + 1) = e + 1 := IntWalk.i64_in _ (by omega)
      have x2 : (u : Int) / 2 = ((u / 2 : Nat) : Int) := by omega
      have x3 : (u : Int).tdiv 2 = ((u / 2 : Nat) : Int) := by rw [Int.tdiv_eq_ediv_of_nonneg (by omega)]; omega
      have hv2 := Lib.hid ((sc_down u e g1).trans hv.out)
      have hu2 : u / 2 < 9007199254740992 := by omega
      have hm : u / 2 < u := by omega
      generalize u / 2 = u2 at *
      clear hv
      go_wp2
      go_roundw
      case rel => exact ⟨u2, e + 1, rfl, rfl, trivial, hu2, by omega, by omega, hv2⟩
      case measure => simp [intOf]; omega
    · have hg : 0 ≤ e ∨ u = 0 := by omega
      rcases d1 : decide (e < 0) with _ | _ <;> rcases d2 : decide (0 < u) with _ | _
      all_goals
        first
          | (exfalso; have k1 := of_decide_eq_true d1; have k2 := of_decide_eq_true d2; omega)
          | (go_wp2
             go_loopw [5, 6] (fun x y wr => ∃ (u : Nat) (e : Int), x = .int .i64 e ∧ y = .int .u64 (u : Int) ∧ w = wr ∧ u < 9007199254740992 ∧ -1074 ≤ e ∧ e ≤ 971 ∧ (0 ≤ e ∨ u = 0) ∧ Hid (sc u e % 4294967296 = H % 4294967296)) (fun x _ _ => (intOf x).toNat)
             case atStart => exact ⟨u, e, rfl, rfl, rfl, hu, hl0, hl1, hg, Lib.hid (by rw [hv.out])⟩
             case round =>
               clear d1 d2 g hg hv hu hl0 hl1
               obtain ⟨u, e, rfl, rfl, rfl, hu, hl0, hl1, hg, hv⟩ := hrel
               by_cases g : 0 < e ∧ 0 < u
               · obtain ⟨g1, g2⟩ := g
                 have d1 : decide (0 < e) = true := decide_eq_true g1
                 have d2 : decide ((0 : Int) < (u : Int)) = true := by rw [decide_eq_true_eq]; omega
                 have x1 : IntKind.i64.wrap (e - 1) = e - 1 := IntWalk.i64_in _ (by omega)
                 have x0 : IntKind.u64.wrap ((u : Int) * 2) = (u : Int) * 2 := IntWalk.u64_in _ (by omega)
                 have x2 : (u : Int) * 2 % 4294967296 = ((u * 2 % 4294967296 : Nat) : Int) := by omega
                 have x3 : ((u : Int) * 2).tmod 4294967296 = ((u * 2 % 4294967296 : Nat) : Int) := by rw [Int.tmod_eq_emod_of_nonneg (by omega)]; omega
                 have hv2 := Lib.hid ((sc_up u e g1).trans hv.out)
                 have hu2 : u * 2 % 4294967296 < 9007199254740992 := by omega
                 generalize u * 2 % 4294967296 = u2 at *
                 clear hv hg
                 go_wp2
                 go_roundw
                 case rel => exact ⟨u2, e - 1, rfl, rfl, trivial, hu2, by omega, by omega, by omega, hv2⟩
                 case measure => simp [intOf]; omega
               · have hE : u % 4294967296 = H % 4294967296 := by
                   have h := hv.out
                   rcases (show e = 0 ∨ u = 0 by omega) with k | k
                   · rw [k, sc_zero] at h; exact h
                   · rw [k, sc_nil] at h; rw [k]; exact h
                 have hN : u % 4294967296 < 4294967296 := Nat.mod_lt _ (by decide)
                 have x2 : (u : Int) % 4294967296 = ((H % 4294967296 : Nat) : Int) := by omega
                 have x3 : (u : Int).tmod 4294967296 = ((H % 4294967296 : Nat) : Int) := by rw [Int.tmod_eq_emod_of_nonneg (by omega)]; omega
                 rw [hE] at hN
                 obtain ⟨K, hK⟩ : ∃ K, H % 4294967296 = K := ⟨_, rfl⟩
                 rw [hK] at hN x2 x3
                 have HK := Lib.hid hK
                 clear hE hK hv
                 have y1 : IntKind.u32.wrap (K : Int) = (K : Int) := IntWalk.u32_in _ (by omega)
                 have y2 : IntKind.u64.wrap (4294967296 - (K : Int)) = 4294967296 - (K : Int) := IntWalk.u64_in _ (by omega)
                 have y3 : (4294967296 - (K : Int)) % 4294967296 = (((4294967296 - K) % 4294967296 : Nat) : Int) := by omega
                 have y4 : (4294967296 - (K : Int)).tmod 4294967296 = (((4294967296 - K) % 4294967296 : Nat) : Int) := by rw [Int.tmod_eq_emod_of_nonneg (by omega)]; omega
                 have y5 : IntKind.u32.wrap (((4294967296 - K) % 4294967296 : Nat) : Int) = (((4294967296 - K) % 4294967296 : Nat) : Int) := IntWalk.u32_in _ (by omega)
                 obtain ⟨K2, hK2⟩ : ∃ K2, (4294967296 - K) % 4294967296 = K2 := ⟨_, rfl⟩
                 rw [hK2] at y3 y4 y5
                 have HK2 := Lib.hid hK2
                 clear hK2
                 rcases d1 : decide (0 < e) with _ | _ <;> rcases d2 : decide (0 < u) with _ | _
                 all_goals
                   first
                     | (exfalso; have k1 := of_decide_eq_true d1; have k2 := of_decide_eq_true d2; omega)
                     | (clear hN hg hl0 hl1 g hu
                        go_wp2
                        go_ret
                        try rw [HK.out]
                        try rw [HK2.out]
                        exact ⟨rfl, rfl⟩))
end Mt
end Go.Proofs.YtciigfaojmpoiaaGreatDoor
namespace Go.Proofs.YtciigfaojmpoiaaGreatDoor
open Go Go.RowKit Go.Sort Go.Lib
set_option linter.all false
namespace Mt
set_option exponentiation.threshold 3000
set_option maxRecDepth 100000 in
theorem ruint32_any (b : Nat) (w : World) (hb : b < 18446744073709551616) : Calls Tryz.prog 14 #[.float .f64 b] w fun e w' => e = .returned (.int .u32 (u32 b : Nat)) ∧ w = w' := by
  rcases gn : Ie.nan b with _ | _
  · have o1 : FloatKind.f64.format.order b b = some .eq := Ie.order_self hb gn
    rcases gi : inf b with _ | _
    · obtain ⟨s, r, hr, hx, hs, hr2⟩ := fin_word hb gn gi
      have HU : u32 b = if s = true then (4294967296 - Ie.V r / 2 ^ 1074 % 4294967296) % 4294967296 else Ie.V r / 2 ^ 1074 % 4294967296 := by
        unfold u32 wh
        rw [if_neg (by rw [gn, gi]; decide), ← hr2, hs]
        simp only [decide_eq_true_eq]
      by_cases h0 : 0 < r
      · rw [HU]
        cases s
        · rw [hx]
          exact ru_pos r w hr h0 rfl
        · rw [hx]
          exact ru_neg r _ rfl w hr h0 rfl
      · obtain rfl : r = 0 := by omega
        have HU2 := Lib.hid (show u32 b = 0 by rw [HU]; cases s <;> decide +kernel)
        have o2 := rk_le (s := s) (t := false) (a := 0) (b := 9218868437227405311) (by omega) (by omega) (by cases s <;> decide)
        have o3 := rk_ge (s := s) (t := true) (a := 0) (b := 9218868437227405311) (by omega) (by omega) (by cases s <;> decide)
        have o4 := rk_eq (s := s) (t := false) (a := 0) (b := 0) (by omega) (by omega) (by cases s <;> decide)
        rw [← hx] at o2 o3 o4
        rw [show Ieee.double.word false 9218868437227405311 = 9218868437227405311 from rfl] at o2
        rw [show Ieee.double.word true 9218868437227405311 = 18442240474082181119 from rfl] at o3
        rw [show Ieee.double.word false 0 = 0 from rfl] at o4
        have d3 : (FloatKind.f64.format.order b 9218868437227405311 == some Ordering.gt) = false := by rcases o2 with h | h <;> rw [h] <;> rfl
        have d4 : (FloatKind.f64.format.order b 18442240474082181119 == some Ordering.lt) = false := by rcases o3 with h | h <;> rw [h] <;> rfl
        clear o2 o3 hx hs hr2 HU hr h0 gn gi hb
        go_enter Tryz.func14, Tryz.ntmps14
        go_wp2
        go_ret
        rw [HU2.out]
        exact ⟨rfl, rfl⟩
    · have HU2 := Lib.hid (show u32 b = 0 by unfold u32; rw [if_pos (.inr gi)])
      have hx := Ie.word_ex b hb
      have hi : b % 9223372036854775808 = 9218868437227405312 := by unfold inf at gi; exact beq_iff_eq.1 gi
      rw [hi] at hx
      rcases hs : decide (9223372036854775808 ≤ b) with _ | _
      · rw [hs] at hx
        have o2 := rk_gt (s := false) (t := false) (a := 9218868437227405312) (b := 9218868437227405311) (by omega) (by omega) (by decide)
        rw [← hx, show Ieee.double.word false 9218868437227405311 = 9218868437227405311 from rfl] at o2
        clear hx hs hi gn gi hb
        go_enter Tryz.func14, Tryz.ntmps14
        go_wp2
        go_ret
        rw [HU2.out]
        exact ⟨rfl, rfl⟩
      · rw [hs] at hx
        have o2 := rk_lt (s := true) (t := false) (a := 9218868437227405312) (b := 9218868437227405311) (by omega) (by omega) (by decide)
        have o3 := rk_lt (s := true) (t := true) (a := 9218868437227405312) (b := 9218868437227405311) (by omega) (by omega) (by decide)
        rw [← hx, show Ieee.double.word false 9218868437227405311 = 9218868437227405311 from rfl] at o2
        rw [← hx, show Ieee.double.word true 9218868437227405311 = 18442240474082181119 from rfl] at o3
        clear hx hs hi gn gi hb
        go_enter Tryz.func14, Tryz.ntmps14
        go_wp2
        go_ret
        rw [HU2.out]
        exact ⟨rfl, rfl⟩
  · have HU := Lib.hid (show u32 b = 0 by unfold u32; rw [if_pos (.inl gn)])
    have o1 : FloatKind.f64.format.order b b = none := Ie.order_nan1 gn b
    clear gn hb
    go_enter Tryz.func14, Tryz.ntmps14
    go_wp2
    go_ret
    rw [HU.out]
    exact ⟨rfl, rfl⟩
theorem u32_lt (b : Nat) : u32 b < 4294967296 := by
  unfold u32
  split
  · decide
  · split <;> exact Nat.mod_lt _ (by decide)
set_option maxRecDepth 100000 in
theorem int32_any (b : Nat) (w : World) (hb : b < 18446744073709551616) : Calls Tryz.prog 15 #[.float .f64 b] w fun e w' => e = .returned (.int .i32 (IntKind.i32.wrap (u32 b : Nat))) ∧ w = w' := by
  have U := fun w => uint32_any b w hb
  generalize u32 b = n at *
  obtain ⟨W, hW⟩ : ∃ W, IntKind.i32.wrap (n : Int) = W := ⟨_, rfl⟩
  rw [hW]
  go_enter Tryz.func15, Tryz.ntmps15
  go_wp2_with fail
  refine (U _).mono ?_
  rintro e w1 ⟨rfl, rfl⟩
  go_wp2
  go_ret
  exact ⟨rfl, rfl⟩
set_option maxRecDepth 100000 in
theorem rint32_any (b : Nat) (w : World) (hb : b < 18446744073709551616) : Calls Tryz.prog 16 #[.float .f64 b] w fun e w' => e = .returned (.int .i32 (IntKind.i32.wrap (u32 b : Nat))) ∧ w = w' := by
  have U := fun w => ruint32_any b w hb
  have hl := u32_lt b
  generalize u32 b = n at *
  have x1 : IntKind.i64.wrap (n : Int) = (n : Int) := IntWalk.i64_in _ (by omega)
  have x2 : IntKind.i64.wrap ((n : Int) - 4294967296) = (n : Int) - 4294967296 := IntWalk.i64_in _ (by omega)
  obtain ⟨W, hW⟩ : ∃ W, IntKind.i32.wrap (n : Int) = W := ⟨_, rfl⟩
  have hW2 : IntKind.i32.wrap ((n : Int) - 4294967296) = W := by rw [← hW, IntKind.wrap_i32, IntKind.wrap_i32]; omega
  rw [hW]
  rcases d1 : decide ((2147483648 : Int) ≤ (n : Int)) with _ | _
  all_goals
    clear hl hb
    go_enter Tryz.func16, Tryz.ntmps16
    go_wp2_with fail
    refine (U _).mono ?_
    rintro e w1 ⟨rfl, rfl⟩
    go_wp2
    go_ret
    exact ⟨rfl, rfl⟩
/-- the same number -/
def same (a b : Nat) : Bool := if Ie.nan a || Ie.nan b then Ie.nan a && Ie.nan b else a == b
set_option maxRecDepth 100000 in
theorem rsame_any (a b : Nat) (w : World) (ha : a < 18446744073709551616) (hb : b < 18446744073709551616) : Calls Tryz.prog 10 #[.float .f64 a, .float .f64 b] w fun e w' => e = .returned (.bool (same a b)) ∧ w = w' := by
  have h6 := @run_callFunc_extern Tryz.prog 23 _ Go.Extern.MathFloatBits.float64bits Tryz.func23 (by kernel_rfl) (by kernel_rfl) (by kernel_rfl) (by kernel_rfl)
  have fb : ∀ (n : Nat) (w : World), (Go.Extern.MathFloatBits.float64bits #[.float .f64 n]).run Tryz.prog w = .ok (.int .u64 (n : Int)) w := fun n w => rfl
  rcases ga : Ie.nan a with _ | _
  · have o1 : FloatKind.f64.format.order a a = some .eq := Ie.order_self ha ga
    have HS : same a b = ((a : Int) == (b : Int)) := by
      unfold same
      rw [ga]
      rcases gb : Ie.nan b with _ | _
      · show (a == b) = _
        rw [Bool.eq_iff_iff, beq_iff_eq, beq_iff_eq]; omega
      · show false = _
        symm
        rw [beq_eq_false_iff_ne]
        intro h
        have h : a = b := by omega
        rw [h, gb] at ga
        cases ga
    have HS := Lib.hid HS
    clear ga
    go_enter Tryz.func10, Tryz.ntmps10
    go_wp2
    go_ret
    rw [HS.out]
    exact ⟨rfl, rfl⟩
  · have o1 : FloatKind.f64.format.order a a = none := Ie.order_nan1 ga a
    rcases gb : Ie.nan b with _ | _
    · have o2 : FloatKind.f64.format.order b b = some .eq := Ie.order_self hb gb
      have HS := Lib.hid (show same a b = false by unfold same; rw [ga, gb]; rfl)
      clear ga gb
      go_enter Tryz.func10, Tryz.ntmps10
      go_wp2
      go_ret
      rw [HS.out]
      exact ⟨rfl, rfl⟩
    · have o2 : FloatKind.f64.format.order b b = none := Ie.order_nan1 gb b
      have HS := Lib.hid (show same a b = true by unfold same; rw [ga, gb]; rfl)
      clear ga gb
      go_enter Tryz.func10, Tryz.ntmps10
      go_wp2
      go_ret
      rw [HS.out]
      exact ⟨rfl, rfl⟩
set_option maxRecDepth 100000 in
theorem signbit_any (b : Nat) (w : World) (hb : b < 18446744073709551616) : Calls Tryz.prog 29 #[.float .f64 b] w fun e w' => e = .returned (.bool (decide (9223372036854775808 ≤ b))) ∧ w = w' := by
  have h6 := @run_callFunc_extern Tryz.prog 23 _ Go.Extern.MathFloatBits.float64bits Tryz.func23 (by kernel_rfl) (by kernel_rfl) (by kernel_rfl) (by kernel_rfl)
  have fb : ∀ (w : World), (Go.Extern.MathFloatBits.float64bits #[.float .f64 b]).run Tryz.prog w = .ok (.int .u64 (b : Int)) w := fun w => rfl
  by_cases g : 9223372036854775808 ≤ b
  · obtain ⟨x, hx⟩ : ∃ x, IntKind.i64.wrap (b : Int) = x := ⟨_, rfl⟩
    have hx2 : x < 0 := by rw [← hx, IntKind.wrap_i64]; omega
    have d1 : decide (x < 0) = true := decide_eq_true hx2
    have HS := Lib.hid (decide_eq_true g)
    clear g hx2 hb
    go_enter Tryz.func29, Tryz.ntmps29
    go_wp2
    go_ret
    rw [HS.out]
    exact ⟨rfl, rfl⟩
  · obtain ⟨x, hx⟩ : ∃ x, IntKind.i64.wrap (b : Int) = x := ⟨_, rfl⟩
    have hx2 : ¬ x < 0 := by rw [← hx, IntKind.wrap_i64]; omega
    have d1 : decide (x < 0) = false := decide_eq_false hx2
    have HS := Lib.hid (decide_eq_false g)
    clear g hx2 hb
    go_enter Tryz.func29, Tryz.ntmps29
    go_wp2
    go_ret
    rw [HS.out]
    exact ⟨rfl, rfl⟩
set_option maxRecDepth 100000 in
theorem same_any (a b : Nat) (w : World) (ha : a < 18446744073709551616) (hb : b < 18446744073709551616) : Calls Tryz.prog 17 #[.float .f64 a, .float .f64 b] w fun e w' => e = .returned (.bool (same a b)) ∧ w = w' := by
  rcases ga : Ie.nan a with _ | _
  · have o1 : FloatKind.f64.format.order a a = some .eq := Ie.order_self ha ga
    rcases gb : Ie.nan b with _ | _
    · have o2 : FloatKind.f64.format.order b b = some .eq := Ie.order_self hb gb
      have HS : same a b = (a == b) := by unfold same; rw [ga, gb]; rfl
      have ha2 : a % 9223372036854775808 ≤ 9218868437227405312 := by have := of_decide_eq_false ga; omega
      have hb2 : b % 9223372036854775808 ≤ 9218868437227405312 := by have := of_decide_eq_false gb; omega
      by_cases ge : Ie.rk (decide (9223372036854775808 ≤ a)) (a % 9223372036854775808) = Ie.rk (decide (9223372036854775808 ≤ b)) (b % 9223372036854775808)
      · have o3 := rk_eq ha2 hb2 ge
        rw [← Ie.word_ex a ha, ← Ie.word_ex b hb] at o3
        have SA := fun w => signbit_any a w ha
        have SB := fun w => signbit_any b w hb
        have HE : same a b = (decide (9223372036854775808 ≤ a) == decide (9223372036854775808 ≤ b)) := by
          rw [HS]
          have e1 : ∀ (s : Bool) r, Ie.rk s r = if s = true then -(r : Int) else (r : Int) := fun s r => rfl
          rw [e1, e1] at ge
          simp only [decide_eq_true_eq] at ge
          rw [Bool.eq_iff_iff, beq_iff_eq, beq_iff_eq, decide_eq_decide]
          constructor
          · intro h; rw [h]
          · intro h
            by_cases ka : 9223372036854775808 ≤ a
            · have kb := h.1 ka
              rw [if_pos ka, if_pos kb] at ge
              omega
            · have kb : ¬ 9223372036854775808 ≤ b := fun k => ka (h.2 k)
              rw [if_neg ka, if_neg kb] at ge
              omega
        have HE := Lib.hid HE
        generalize decide (9223372036854775808 ≤ a) = sa at *
        generalize decide (9223372036854775808 ≤ b) = sb at *
        clear HS ge ga gb ha2 hb2
        go_enter Tryz.func17, Tryz.ntmps17
        go_wp2_with fail
        refine (SA _).mono ?_
        rintro e w1 ⟨rfl, rfl⟩
        go_wp2_with fail
        refine (SB _).mono ?_
        rintro e w1 ⟨rfl, rfl⟩
        go_wp2
        go_ret
        rw [HE.out]
        exact ⟨rfl, rfl⟩
      · have o3 : FloatKind.f64.format.order a b = some .lt ∨ FloatKind.f64.format.order a b = some .gt := by
          rcases Int.lt_or_gt_of_ne ge with k | k
          · have := rk_lt ha2 hb2 k
            rw [← Ie.word_ex a ha, ← Ie.word_ex b hb] at this
            exact .inl this
          · have := rk_gt ha2 hb2 k
            rw [← Ie.word_ex a ha, ← Ie.word_ex b hb] at this
            exact .inr this
        have HE := Lib.hid (show same a b = false by
          rw [HS, beq_eq_false_iff_ne]
          intro h
          rw [h] at ge
          exact ge rfl)
        clear HS ge ga gb ha2 hb2
        rcases o3 with o3 | o3
        all_goals
          go_enter Tryz.func17, Tryz.ntmps17
          go_wp2
          go_ret
          rw [HE.out]
          exact ⟨rfl, rfl⟩
    · have o2 : FloatKind.f64.format.order b b = none := Ie.order_nan1 gb b
      have HS := Lib.hid (show same a b = false by unfold same; rw [ga, gb]; rfl)
      clear ga gb
      go_enter Tryz.func17, Tryz.ntmps17
      go_wp2
      go_ret
      rw [HS.out]
      exact ⟨rfl, rfl⟩
  · have o1 : FloatKind.f64.format.order a a = none := Ie.order_nan1 ga a
    rcases gb : Ie.nan b with _ | _
    · have o2 : FloatKind.f64.format.order b b = some .eq := Ie.order_self hb gb
      have HS := Lib.hid (show same a b = false by unfold same; rw [ga, gb]; rfl)
      clear ga gb
      go_enter Tryz.func17, Tryz.ntmps17
      go_wp2
      go_ret
      rw [HS.out]
      exact ⟨rfl, rfl⟩
    · have o2 : FloatKind.f64.format.order b b = none := Ie.order_nan1 gb b
      have HS := Lib.hid (show same a b = true by unfold same; rw [ga, gb]; rfl)
      clear ga gb
      go_enter Tryz.func17, Tryz.ntmps17
      go_wp2
      go_ret
      rw [HS.out]
      exact ⟨rfl, rfl⟩
end Mt
end Go.Proofs.YtciigfaojmpoiaaGreatDoor
namespace Go.Proofs.YtciigfaojmpoiaaGreatDoor
open Go Go.RowKit Go.Sort Go.Lib
set_option linter.all false
namespace Mt
set_option exponentiation.threshold 3000
/-- cut toward 0, as a float -/
def whole (b : Nat) : Nat := if Ie.nan b = true then 0 else Ieee.double.write ((Ieee.double.read b).integral .zero)
theorem whole_fin (s : Bool) {r c : Nat} (hr : r < 9218868437227405312) (hc : c < 9218868437227405312) (e : Ie.V c = Ie.V r / 2 ^ 1074 * 2 ^ 1074) : whole (Ieee.double.word s r) = Ieee.double.word s c := by
  unfold whole
  rw [if_neg (by unfold Ie.nan; rw [(Ie.word_split s r (by omega)).2, decide_eq_true_eq]; omega)]
  exact Ie.trunc_sv s hr hc e
theorem whole_inf (s : Bool) : whole (Ieee.double.word s 9218868437227405312) = Ieee.double.word s 9218868437227405312 := by cases s <;> decide
theorem inf_word {b : Nat} (hb : b < 18446744073709551616) (gi : inf b = true) : b = Ieee.double.word (decide (9223372036854775808 ≤ b)) 9218868437227405312 := by
  have hx := Ie.word_ex b hb
  have hi : b % 9223372036854775808 = 9218868437227405312 := by unfold inf at gi; exact beq_iff_eq.1 gi
  rwa [hi] at hx
set_option maxRecDepth 100000 in
theorem whole_any (b : Nat) (w : World) (hb : b < 18446744073709551616) : Calls Tryz.prog 11 #[.float .f64 b] w fun e w' => e = .returned (.float .f64 (whole b)) ∧ w = w' := by
  rcases gn : Ie.nan b with _ | _
  · have o1 : FloatKind.f64.format.order b b = some .eq := Ie.order_self hb gn
    have TR : ∀ w, Calls Tryz.prog 24 #[.float .f64 b] w fun e w' => e = .returned (.float .f64 (whole b)) ∧ w = w' := by
      intro w
      rcases gi : inf b with _ | _
      · obtain ⟨s, r, hr, hx, hs, hr2⟩ := fin_word hb gn gi
        obtain ⟨c, hc, hv, -⟩ := Ie.trunc_has r hr
        rw [hx, whole_fin s hr hc hv]
        exact trunc_any s w hr hc hv
      · rw [inf_word hb gi, whole_inf]
        exact trunc_inf _ w
    generalize whole b = y at *
    clear gn
    go_enter Tryz.func11, Tryz.ntmps11
    go_wp2_with fail
    refine (TR _).mono ?_
    rintro e w1 ⟨rfl, rfl⟩
    go_wp2
    go_ret
    exact ⟨rfl, rfl⟩
  · have o1 : FloatKind.f64.format.order b b = none := Ie.order_nan1 gn b
    have HW := Lib.hid (show whole b = 0 by unfold whole; rw [if_pos gn])
    clear gn hb
    go_enter Tryz.func11, Tryz.ntmps11
    go_wp2
    go_ret
    rw [HW.out]
    exact ⟨rfl, rfl⟩
theorem V53 : Ie.V 4845873199050653696 = 9007199254740992 * 2 ^ 1074 := by decide +kernel
/-- at 2^53 and above all numbers are whole -/
theorem big_whole {r : Nat} (h0 : 4845873199050653696 ≤ r) (h1 : r < 9218868437227405312) : Ie.V r = Ie.V r / 2 ^ 1074 * 2 ^ 1074 := by
  have e1 : Ie.V r = (4503599627370496 + r % 4503599627370496) * 2 ^ (r / 4503599627370496 - 1) := by unfold Ie.V; rw [if_neg (by omega)]
  obtain ⟨k, hk⟩ : ∃ k, r / 4503599627370496 - 1 = 1074 + k := ⟨r / 4503599627370496 - 1 - 1074, by omega⟩
  rw [e1, hk, Nat.pow_add, Nat.mul_comm (2 ^ 1074), ← Nat.mul_assoc, Nat.mul_div_cancel _ (Nat.pow_pos (by decide))]
set_option maxRecDepth 100000 in
theorem copysign_z (w : World) : Calls Tryz.prog 25 #[.float .f64 0, .float .f64 13830554455654793216] w fun e w' => e = .returned (.float .f64 9223372036854775808) ∧ w = w' := by
  have h6 := @run_callFunc_extern Tryz.prog 23 _ Go.Extern.MathFloatBits.float64bits Tryz.func23 (by kernel_rfl) (by kernel_rfl) (by kernel_rfl) (by kernel_rfl)
  have fb : ∀ (n : Nat) (w : World), (Go.Extern.MathFloatBits.float64bits #[.float .f64 n]).run Tryz.prog w = .ok (.int .u64 (n : Int)) w := fun n w => rfl
  have h7 := @run_callFunc_extern Tryz.prog 43 _ Go.Extern.MathFloatBits.float64frombits Tryz.func43 (by kernel_rfl) (by kernel_rfl) (by kernel_rfl) (by kernel_rfl)
  have ff : ∀ (n : Int) (w : World), (Go.Extern.MathFloatBits.float64frombits #[.int .u64 n]).run Tryz.prog w = .ok (.float .f64 n.toNat) w := fun n w => rfl
  have x1 : bits .andNot .u64 0 9223372036854775808 = 0 := by decide
  have x2 : bits .and .u64 13830554455654793216 9223372036854775808 = 9223372036854775808 := by decide
  have x3 : bits .or .u64 0 9223372036854775808 = 9223372036854775808 := by decide
  go_enter Tryz.func25, Tryz.ntmps25
  go_wp2
  go_ret
  exact ⟨rfl, rfl⟩
end Mt
end Go.Proofs.YtciigfaojmpoiaaGreatDoor
namespace Go.Proofs.YtciigfaojmpoiaaGreatDoor
open Go Go.RowKit Go.Sort Go.Lib
set_option linter.all false
namespace Mt
set_option exponentiation.threshold 3000
theorem f53 : Ieee.double.word false 4845873199050653696 = 4845873199050653696 := by decide
theorem t53 : Ieee.double.word true 4845873199050653696 = 14069245235905429504 := by decide
theorem f00 : Ieee.double.word false 0 = 0 := by decide
theorem to_i64 (s : Bool) {r : Nat} (hr : r < 4845873199050653696) (w : World) : (convert 22 2 (.float .f64 (Ieee.double.word s r))).run Tryz.prog w = .ok (.int .i64 (if s then -((Ie.V r / 2 ^ 1074 : Nat) : Int) else ((Ie.V r / 2 ^ 1074 : Nat) : Int))) w := by
  refine run_convert_float_int w 22 2 .f64 .i64 (Ieee.double.word s r) _ (by kernel_rfl) (by kernel_rfl) ?_
  have hN : Ie.V r / 2 ^ 1074 < 9007199254740992 := by
    rw [Nat.div_lt_iff_lt_mul (Nat.pow_pos (by decide)), ← V53]
    exact Ie.V_lt hr
  unfold floatToIntVal
  have t : (FloatKind.f64.decode (Ieee.double.word s r)).toInt .zero = _ := Ie.toInt_sv s (by omega)
  rw [t]
  generalize Ie.V r / 2 ^ 1074 = N at *
  show (if (-9223372036854775808 : Int) ≤ (if s = true then -(N : Int) else (N : Int)) ∧ (if s = true then -(N : Int) else (N : Int)) ≤ 9223372036854775807 then _ else _) = _
  rw [if_pos (by cases s <;> simp <;> omega)]
set_option maxRecDepth 100000 in
set_option maxHeartbeats 4000000 in
theorem rwhole_any (b : Nat) (w : World) (hb : b < 18446744073709551616) : Calls Tryz.prog 12 #[.float .f64 b] w fun e w' => e = .returned (.float .f64 (whole b)) ∧ w = w' := by
  rcases gn : Ie.nan b with _ | _
  · have o1 : FloatKind.f64.format.order b b = some .eq := Ie.order_self hb gn
    have hx := Ie.word_ex b hb
    obtain ⟨s, hs⟩ : ∃ s, decide (9223372036854775808 ≤ b) = s := ⟨_, rfl⟩
    obtain ⟨r, hr⟩ : ∃ r, b % 9223372036854775808 = r := ⟨_, rfl⟩
    have hr1 : r ≤ 9218868437227405312 := by have := of_decide_eq_false gn; omega
    rw [hs, hr] at hx
    by_cases g : 4845873199050653696 ≤ r ∨ r = 0
    · have HW : whole b = b := by
        rcases g with g | g
        · by_cases gi : r = 9218868437227405312
          · rw [hx, gi, whole_inf]
          · rw [hx, whole_fin s (by omega) (by omega) (big_whole g (by omega))]
        · rw [hx, g, whole_fin s (c := 0) (by decide) (by decide) (by decide +kernel)]
      have HW := Lib.hid HW
      rcases (show (s = false ∧ 4845873199050653696 ≤ r) ∨ (s = true ∧ 4845873199050653696 ≤ r) ∨ r = 0 by cases s <;> simp <;> omega) with ⟨rfl, k⟩ | ⟨rfl, k⟩ | rfl
      · have o2 := rk_ge (s := false) (t := false) (a := r) (b := 4845873199050653696) hr1 (by omega) (by rw [rk_f, rk_f]; omega)
        rw [← hx, f53] at o2
        clear hx hs hr hr1 gn k g hb
        rcases o2 with o2 | o2
        all_goals
          go_enter Tryz.func12, Tryz.ntmps12
          go_wp2
          go_ret
          rw [HW.out]
          exact ⟨rfl, rfl⟩
      · have o2 := rk_lt (s := true) (t := false) (a := r) (b := 4845873199050653696) hr1 (by omega) (by rw [rk_t, rk_f]; omega)
        have o3 := rk_le (s := true) (t := true) (a := r) (b := 4845873199050653696) hr1 (by omega) (by rw [rk_t, rk_t]; omega)
        rw [← hx, f53] at o2
        rw [← hx, t53] at o3
        clear hx hs hr hr1 gn k g hb
        rcases o3 with o3 | o3
        all_goals
          go_enter Tryz.func12, Tryz.ntmps12
          go_wp2
          go_ret
          rw [HW.out]
          exact ⟨rfl, rfl⟩
      · have o2 := rk_lt (s := s) (t := false) (a := 0) (b := 4845873199050653696) (by omega) (by omega) (by cases s <;> decide)
        have o3 := rk_gt (s := s) (t := true) (a := 0) (b := 4845873199050653696) (by omega) (by omega) (by cases s <;> decide)
        have o4 := rk_eq (s := s) (t := false) (a := 0) (b := 0) (by omega) (by omega) (by cases s <;> decide)
        rw [← hx, f53] at o2
        rw [← hx, t53] at o3
        rw [← hx, f00] at o4
        clear hx hs hr hr1 gn g hb
        go_enter Tryz.func12, Tryz.ntmps12
        go_wp2
        go_ret
        rw [HW.out]
        exact ⟨rfl, rfl⟩
    · have g0 : 0 < r := by omega
      have g1 : r < 4845873199050653696 := by omega
      obtain ⟨c, hc, hv, -⟩ := Ie.trunc_has r (by omega)
      have HW : whole b = Ieee.double.word s c := by rw [hx]; exact whole_fin s (by omega) hc hv
      have o2 := rk_lt (s := s) (t := false) (a := r) (b := 4845873199050653696) hr1 (by omega) (by cases s <;> first | (rw [rk_t, rk_f]; omega) | (rw [rk_f, rk_f]; omega))
      have o3 := rk_gt (s := s) (t := true) (a := r) (b := 4845873199050653696) hr1 (by omega) (by cases s <;> first | (rw [rk_t, rk_t]; omega) | (rw [rk_t, rk_f]; omega))
      rw [← hx, f53] at o2
      rw [← hx, t53] at o3
      have CV := fun w => to_i64 s g1 w
      rw [← hx] at CV
      have hN : Ie.V r / 2 ^ 1074 < 9007199254740992 := by
        rw [Nat.div_lt_iff_lt_mul (Nat.pow_pos (by decide)), ← V53]
        exact Ie.V_lt g1
      obtain ⟨N, hNN⟩ : ∃ N, Ie.V r / 2 ^ 1074 = N := ⟨_, rfl⟩
      rw [hNN] at hN hv
      simp only [hNN] at CV
      have hc0 : c = 0 ↔ N = 0 := by
        rw [← v_pos, hv]
        have := Nat.pow_pos (n := 1074) (show 0 < 2 by decide)
        rw [Nat.mul_eq_zero]
        omega
      cases s
      · have o4 := rk_gt (s := false) (t := false) (a := r) (b := 0) hr1 (by omega) (by rw [rk_f, rk_f]; omega)
        rw [← hx, f00] at o4
        have FI : floatOfInt .f64 (N : Int) = c := by
          have := Ie.int_sv (n := (N : Int)) hc (by rw [hv]; rfl)
          rw [show decide ((N : Int) < 0) = false by rw [decide_eq_false_iff_not]; omega] at this
          exact this
        have o5 := rk_ge (s := false) (t := false) (a := c) (b := 0) (by omega) (by omega) (by rw [rk_f, rk_f]; omega)
        rw [f00, show Ieee.double.word false c = c from rfl] at o5
        have CV2 : ∀ w, (convert 22 2 (.float .f64 b)).run Tryz.prog w = .ok (.int .i64 (N : Int)) w := CV
        have HW := Lib.hid (show whole b = c from HW)
        clear CV hx hs hr hr1 gn g hb g0 g1 hc hv hN hNN hc0
        rcases o5 with o5 | o5
        all_goals
          go_enter Tryz.func12, Tryz.ntmps12
          go_wp2
          go_ret
          rw [HW.out]
          exact ⟨rfl, rfl⟩
      · have o4 := rk_lt (s := true) (t := false) (a := r) (b := 0) hr1 (by omega) (by rw [rk_t, rk_f]; omega)
        rw [← hx, f00] at o4
        have CV2 : ∀ w, (convert 22 2 (.float .f64 b)).run Tryz.prog w = .ok (.int .i64 (-(N : Int))) w := CV
        by_cases k : N = 0
        · have hc1 := hc0.2 k
          subst k
          subst hc1
          have HW := Lib.hid (show whole b = 9223372036854775808 from HW)
          have CV3 : ∀ w, (convert 22 2 (.float .f64 b)).run Tryz.prog w = .ok (.int .i64 0) w := CV2
          have FI : floatOfInt .f64 0 = 0 := by decide
          have o5 : FloatKind.f64.format.order 0 0 = some .eq := by decide
          have CS := fun w => copysign_z w
          clear CV CV2 hx hs hr hr1 gn g hb g0 g1 hc hv hN hNN hc0
          go_enter Tryz.func12, Tryz.ntmps12
          go_wp2_with fail
          refine (CS _).mono ?_
          rintro e w1 ⟨rfl, rfl⟩
          go_wp2
          go_ret
          rw [HW.out]
          exact ⟨rfl, rfl⟩
        · have hc1 : c ≠ 0 := fun h => k (hc0.1 h)
          obtain ⟨y, hy⟩ : ∃ y, Ieee.double.word true c = y := ⟨_, rfl⟩
          have FI : floatOfInt .f64 (-(N : Int)) = y := by
            have h := Ie.int_sv (n := -(N : Int)) hc (by rw [hv]; congr 1; omega)
            have hd : decide (-(N : Int) < 0) = true := by rw [decide_eq_true_eq]; omega
            show Ieee.double.write (.number (decide (-(N : Int) < 0)) (-(N : Int)).natAbs 0) = y
            rw [h, hd, hy]
          have o5 := rk_lt (s := true) (t := false) (a := c) (b := 0) (by omega) (by omega) (by rw [rk_t, rk_f]; omega)
          rw [f00, hy] at o5
          have HW := Lib.hid (show whole b = y by rw [HW, hy])
          clear CV hx hs hr hr1 gn g hb g0 g1 hc hv hN hNN hc0 hy hc1 k
          go_enter Tryz.func12, Tryz.ntmps12
          go_wp2
          go_ret
          rw [HW.out]
          exact ⟨rfl, rfl⟩
  · have o1 : FloatKind.f64.format.order b b = none := Ie.order_nan1 gn b
    have HW := Lib.hid (show whole b = 0 by unfold whole; rw [if_pos gn])
    clear gn hb
    go_enter Tryz.func12, Tryz.ntmps12
    go_wp2
    go_ret
    rw [HW.out]
    exact ⟨rfl, rfl⟩
end Mt
end Go.Proofs.YtciigfaojmpoiaaGreatDoor
