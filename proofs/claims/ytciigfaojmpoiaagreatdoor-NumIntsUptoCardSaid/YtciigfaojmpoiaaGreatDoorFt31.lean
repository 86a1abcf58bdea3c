/- NumInts: the walk. -/
import Derived.Test.YtciigfaojmpoiaaGreatDoorFtI
namespace Go.Proofs.YtciigfaojmpoiaaGreatDoor
open Go Go.RowKit
set_option linter.all false
open Lx (w16)
namespace Mt
set_option exponentiation.threshold 3000
theorem neg_int (n : Nat) (h0 : 0 < n) (h : n < 9007199254740992) : Us.sg true (floatOfInt .f64 (n : Int)) = floatOfInt .f64 (-(n : Int)) := by
  obtain ⟨c, hc, hv, e⟩ := int_word (n : Int) (by omega)
  obtain ⟨d, hd, hv2, e2⟩ := int_word (-(n : Int)) (by omega)
  have : c = d := Ie.V_inj (by rw [hv, hv2]; congr 1; omega)
  subst this
  rw [show decide ((n : Int) < 0) = false by rw [decide_eq_false_iff_not]; omega] at e
  rw [show decide (-(n : Int) < 0) = true by rw [decide_eq_true_eq]; omega] at e2
  rw [e, e2]
  have hs : ∀ x, Us.sg true x = Op.negFloat .f64 x := fun x => rfl
  rw [hs, Ie.neg_word false (by omega)]
  rfl
theorem pl_digs {D : List UInt8} (h : ∀ c ∈ D, 48 ≤ c.toNat ∧ c.toNat ≤ 57) : Nm.Pl D := fun k hk => by
  have := Ft.by8_dig h hk
  exact ⟨by omega, Nm.blank_no _ (by omega) (by omega)⟩
theorem pl_neg {D : List UInt8} (h : ∀ c ∈ D, 48 ≤ c.toNat ∧ c.toNat ≤ 57) : Nm.Pl (45 :: D) := fun k hk => by
  cases k with
  | zero => exact ⟨(show (45 : Nat) < 128 by decide), (show Nm.blank 45 = false by decide)⟩
  | succ k =>
    rw [by8_cons]
    rw [List.length_cons] at hk
    have := Ft.by8_dig h (k := k) (by omega)
    exact ⟨by omega, Nm.blank_no _ (by omega) (by omega)⟩
set_option maxRecDepth 100000 in
set_option maxHeartbeats 8000000 in
theorem number_neg {Hi Lo T : Nat → Nat} {D : List UInt8} {x : Nat} {b : Bool} {w : World} (hl : D.length ≤ 1000) (h0 : 0 < D.length) (hdg : ∀ c ∈ D, 48 ≤ c.toNat ∧ c.toNat ≤ 57) (hdec : Nm.decimal D = true) (hA : Us.AD Hi Lo T (45 :: D) x b) (hW : Nm.NW Hi Lo T w) :
    Calls Tryz.prog 21 #[.string ⟨(w16 (45 :: D)).toArray⟩] w fun e w' => e = .returned (.float .f64 x) ∧ Pur w w' := by
  have hwl := Nm.w16_len (45 :: D)
  have PL := Nm.plain_any (w16 (45 :: D)) w (by rw [hwl, List.length_cons]; omega)
  have PF : ∀ w', Pur w w' → _ := fun w' h => Nm.pf_any hA (by rw [List.length_cons]; omega) (hW.pur h)
  rw [Nm.plain_w16 (pl_neg hdg) (by rw [List.length_cons]; omega)] at PL
  unfold Nm.PlainPost at PL
  have DE := fun w => Nm.decimal_any D w (by omega)
  rw [hdec] at DE
  have hb : by8 (45 :: D) 0 = 45 := rfl
  have hsub : sub (45 :: D) 1 (45 :: D : List UInt8).length = D := by unfold sub; simp
  have x6 : (0 : Int) < (45 :: D : List UInt8).length := by rw [List.length_cons]; omega
  have x7 : (1 : Int) ≤ (45 :: D : List UInt8).length := by rw [List.length_cons]; omega
  have hinf2 : ¬ D = [73, 110, 102, 105, 110, 105, 116, 121] := fun e => by
    have := hdg 73 (by rw [e]; simp)
    exact absurd this.2 (by decide)
  have hinf : (D == [73, 110, 102, 105, 110, 105, 116, 121]) = false := by rw [beq_eq_false_iff_ne]; exact hinf2
  obtain ⟨s, hs⟩ : ∃ s : List UInt8, 45 :: D = s := ⟨_, rfl⟩
  have hne : ¬ s = [] := by intro e; rw [e] at hs; cases hs
  have hne2 : s.isEmpty = false := by rw [← hs]; rfl
  rw [hs] at PL hb hsub x6 x7 ⊢
  simp only [hs] at PF
  have d1 : ((by8 s 0 : Int) == 48) = false := by rw [hb]; rfl
  have d2 : ((by8 s 0 : Int) == 43) = false := by rw [hb]; rfl
  have d3 : ((by8 s 0 : Int) == 45) = true := by rw [hb]; rfl
  generalize w16 s = X at *
  clear hs hA hW hdg hdec hl hwl hb
  rcases t1 : decide ((2 : Int) < (s.length : Int)) with _ | _
  all_goals
    go_enter Tryz.func21, Tryz.ntmps21
    go_wp2_with fail
    refine PL.mono ?_
    rintro e w1 ⟨rfl, p1⟩
    have PF1 := PF w1 p1
    clear PF PL
    go_wp2_with fail
    refine (DE _).mono ?_
    rintro e w2 ⟨rfl, rfl⟩
    go_wp2_with fail
    refine PF1.mono ?_
    rintro e w2 ⟨he, p2⟩
    rcases he with rfl | ⟨te, pe, rfl⟩
    all_goals
      go_wp2
      go_ret
      exact ⟨rfl, p1.trans p2⟩
/-- a whole number's digits, a sign ahead, as a wide text: that number -/
theorem number_int {w : World} (z : Int) (h : z.natAbs < 4503599627370496) (hW : Ft.AK w) : Calls Tryz.prog 21 #[.string ⟨(w16 (Ft.zT z)).toArray⟩] w fun e w' => e = .returned (.float .f64 (floatOfInt .f64 z)) ∧ Pur w w' := by
  have hl := Ft.dec_le z.natAbs (by omega)
  have h0 := Ft.dec_ne z.natAbs
  have hdg := Ft.dec_digit z.natAbs
  have hdec := Ft.dec_decimal z.natAbs
  by_cases g : z < 0
  · have ha := Ft.ad_neg (Hi := P10.Hi0) (Lo := P10.Lo0) (T := P10.T0) z.natAbs (by omega) h
    rw [neg_int _ (by omega) (by omega), show -(z.natAbs : Int) = z by omega] at ha
    rw [show Ft.zT z = 45 :: Lib.decDigits z.natAbs by unfold Ft.zT; rw [if_pos g]]
    exact number_neg (by omega) h0 hdg hdec ha hW.n
  · have ha := Ft.ad_dec (Hi := P10.Hi0) (Lo := P10.Lo0) (T := P10.T0) z.natAbs h
    rw [show (z.natAbs : Int) = z by omega] at ha
    rw [show Ft.zT z = Lib.decDigits z.natAbs by unfold Ft.zT; rw [if_neg g]]
    exact Nm.number_dec (by rw [Nm.w16_len]; omega) (Nm.plain_w16 (pl_digs hdg) h0) hdec ha hW.n
end Mt
namespace Ie
open Ieee
set_option exponentiation.threshold 3000
/-- a sum above 0 that the format has -/
theorem add_pos {a b c : Nat} (ha : a < 9218868437227405312) (hb : b < 9218868437227405312) (hc : c < 9218868437227405312) (h : V c = V a + V b) (h0 : 0 < V c) : double.add (double.word false a) (double.word false b) = some (double.word false c) := by
  obtain ⟨m, k, e1, e2⟩ := read_word false a ha
  obtain ⟨n, l, f1, f2⟩ := read_word false b hb
  unfold Format.add
  rw [e1, f1]
  unfold Datum.sum
  dsimp only
  rw [min_place]
  have h1 := signed_up false m k (min k l) (Nat.min_le_left _ _)
  have h2 := signed_up false n l (min k l) (Nat.min_le_right _ _)
  rw [e2] at h1
  rw [f2] at h2
  have hp : (0 : Int) < 2 ^ (min k l) := Int.pow_pos (by decide)
  simp only [Bool.false_eq_true, if_false, if_true] at h1 h2 ⊢
  obtain ⟨x, hx⟩ : ∃ x, signed false m ((k : Int) - 1074 - (((min k l : Nat) : Int) - 1074)).toNat = x := ⟨_, rfl⟩
  obtain ⟨y, hy⟩ : ∃ y, signed false n ((l : Int) - 1074 - (((min k l : Nat) : Int) - 1074)).toNat = y := ⟨_, rfl⟩
  rw [hx] at h1 ⊢
  rw [hy] at h2 ⊢
  have h3 : (x + y) * 2 ^ (min k l) = (V c : Int) := by rw [Int.add_mul, h1, h2]; omega
  have h4 : 0 ≤ x + y := by
    by_cases g : x + y < 0
    · have := Int.mul_lt_mul_of_pos_right g hp
      rw [h3, Int.zero_mul] at this
      omega
    · omega
  obtain ⟨z, hz⟩ := Int.eq_ofNat_of_zero_le h4
  rw [hz] at h3 ⊢
  have h5 : z * 2 ^ (min k l) = V c := by
    have : ((z * 2 ^ (min k l) : Nat) : Int) = (V c : Int) := by rw [Int.natCast_mul, Int.natCast_pow]; exact h3
    exact Int.ofNat.inj this
  have hs : (if (z : Int) = 0 then false && false else decide ((z : Int) < 0)) = false := by split <;> simp <;> omega
  rw [hs]
  show some (double.nearest false z _) = _
  rw [nearest_eq false z (min k l) c hc h5]
end Ie
namespace Mt
set_option exponentiation.threshold 3000
theorem f32 : Ieee.double.word false 4751297606875873280 = 4751297606875873280 := by decide
theorem V32 : Ie.V 4751297606875873280 = 4294967296 * 2 ^ 1074 := by decide +kernel
theorem add_32 (z : Int) (h0 : -2147483648 ≤ z) (h1 : z ≤ 2147483647) : floatBits .add .f64 (floatOfInt .f64 z) 4751297606875873280 = some (floatOfInt .f64 (z + 4294967296)) := by
  obtain ⟨a, ha, hv, e⟩ := int_word z (by omega)
  obtain ⟨c, hc, hv2, e2⟩ := int_word (z + 4294967296) (by omega)
  rw [show decide (z + 4294967296 < 0) = false by rw [decide_eq_false_iff_not]; omega] at e2
  have hp : 0 < 2 ^ 1074 := Nat.pow_pos (by decide)
  have hpos : 0 < Ie.V c := by rw [hv2]; exact Nat.mul_pos (by omega) hp
  rw [e, e2]
  by_cases g : z < 0
  · rw [decide_eq_true g]
    have := Ie.add_sv ha (b := 4751297606875873280) (by decide) hc (by rw [V32, hv, hv2, ← Nat.add_mul]; congr 1; omega) hpos
    rw [f32] at this
    exact this
  · rw [decide_eq_false g]
    have := Ie.add_pos ha (b := 4751297606875873280) (by decide) hc (by rw [V32, hv, hv2, ← Nat.add_mul]; congr 1; omega) hpos
    rw [f32] at this
    exact this
/-- the law's own digits -/
theorem ldig_int (z : Int) (w : World) (h : z.natAbs < 4503599627370496) : Calls Tryz.prog 20 #[.int .i64 z] w fun e w' => e = .returned (.string ⟨(Ft.zT z).toArray⟩) ∧ Pur w w' := by
  by_cases g : z < 0
  · have := Ft.ldig_neg z.natAbs w (by omega) (by omega)
    rw [show -(z.natAbs : Int) = z by omega] at this
    rw [show Ft.zT z = 45 :: Lib.decDigits z.natAbs by unfold Ft.zT; rw [if_pos g]]
    exact this
  · have := Ft.ldig_any z.natAbs w (by omega)
    rw [show (z.natAbs : Int) = z by omega] at this
    rw [show Ft.zT z = Lib.decDigits z.natAbs by unfold Ft.zT; rw [if_neg g]]
    exact this
set_option maxRecDepth 100000 in
set_option maxHeartbeats 4000000 in
theorem ints_law (z : Int) (w : World) (z0 : -2147483648 ≤ z) (z1 : z ≤ 2147483647) (h : Ft.AK w) :
    Calls Tryz.prog 6 #[.int .i32 z] w fun e w' => e = .returned (.bool true) ∧ Pur w w' := by
  have AW := Ft.awake_any h
  have hz : z.natAbs < 4503599627370496 := by omega
  have hz2 : z.natAbs < 9007199254740992 := by omega
  have hz3 : (z + 4294967296).natAbs < 9007199254740992 := by omega
  have hlen := zT_len z hz2
  have x1 : IntKind.i64.wrap z = z := IntWalk.i64_in _ (by omega)
  have w32 : IntKind.i32.wrap z = z := IntWalk.i32_in _ (by omega)
  have D1 := fun w => ldig_int z w hz
  have H1 : ∃ (fx : Nat) (u : Nat), floatOfInt .f64 z = fx ∧ fx < 18446744073709551616 ∧ u32 fx = u ∧ (u : Int) = z % 4294967296 ∧ whole fx = fx ∧ Ie.nan fx = false ∧ Ft.txt P10.Hi0 P10.Lo0 fx = Ft.zT z ∧
      (∀ W, Pur w W → Calls Tryz.prog 21 #[.string ⟨(w16 (Ft.zT z)).toArray⟩] W fun e w' => e = .returned (.float .f64 fx) ∧ Pur W w') ∧ floatBits .add .f64 fx 4751297606875873280 = some (floatOfInt .f64 (z + 4294967296)) :=
    ⟨_, _, rfl, int_lt z, rfl, u32_int z hz2, whole_int z hz2, (int_fin z hz2).1, Ft.txt_whole z (Nat.lt_of_le_of_lt (show z.natAbs ≤ 2147483648 by omega) (by decide)), fun W hp => number_int z hz (h.pur hp), add_32 z z0 z1⟩
  obtain ⟨fx, u, x4, l1, hu, e1, hwh, hnan, ht, NN, hadd⟩ := H1
  have H2 : ∃ (fy v : Nat), floatOfInt .f64 (z + 4294967296) = fy ∧ fy < 18446744073709551616 ∧ u32 fy = v ∧ (v : Int) = (z + 4294967296) % 4294967296 := ⟨_, _, rfl, int_lt _, rfl, u32_int _ hz3⟩
  obtain ⟨fy, v, x5, l2, hv, e2⟩ := H2
  rw [x5] at hadd
  have huv : v = u := by
    rw [Int.add_emod_right] at e2
    omega
  rw [huv] at hv
  have AD := fun w => run_float_arith (P := Tryz.prog) w .add 22 .f64 fx 4751297606875873280 fy hadd
  have T1 := fun (W : World) (hp : Pur w W) => Ft.text_any fx (h.pur hp).x l1
  simp only [ht] at T1
  have W1 := fun w => whole_any fx w l1
  rw [hwh] at W1
  have U1 := fun w => uint32_any fx w l1
  rw [hu] at U1
  have I1 := fun w => int32_any fx w l1
  have I2 := fun w => int32_any fy w l2
  rw [hu, wrap_mod z u e1, w32] at I1
  rw [hv, wrap_mod z u e1, w32] at I2
  have o1 : FloatKind.f64.format.order fx fx = some .eq := Ie.order_self l1 hnan
  have x6 : IntKind.u32.wrap z = (u : Int) := by rw [IntKind.wrap_u32, e1]
  have OF := fun w => Ft.of_any (Ft.zT z) w (by omega)
  generalize Ft.zT z = D at *
  generalize w16 D = X at *
  clear ht hwh hu hv huv l1 l2 hnan e1 e2 hadd hz hz2 hz3 z0 z1 x5 h
  go_enter Tryz.func6, Tryz.ntmps6
  go_wp2_with fail
  refine AW.mono ?_
  rintro e w1 ⟨rfl, p1⟩
  go_wp2_with fail
  refine (D1 _).mono ?_
  rintro e w2 ⟨rfl, q2⟩
  have p2 := p1.trans q2
  go_wp2_with fail
  refine (T1 _ p2).mono ?_
  rintro e w3 ⟨rfl, q3⟩
  have p3 := p2.trans q3
  go_wp2_with fail
  refine (I1 _).mono ?_
  rintro e w4 ⟨rfl, rfl⟩
  go_wp2_with fail
  refine (U1 _).mono ?_
  rintro e w4 ⟨rfl, rfl⟩
  go_wp2_with fail
  refine (W1 _).mono ?_
  rintro e w4 ⟨rfl, rfl⟩
  go_wp2_with fail
  refine (I2 _).mono ?_
  rintro e w4 ⟨rfl, rfl⟩
  go_wp2_with fail
  refine (OF _).mono ?_
  rintro e w4 ⟨rfl, q4⟩
  have p4 := p3.trans q4
  go_wp2_with fail
  refine (NN _ p4).mono ?_
  rintro e w5 ⟨rfl, q5⟩
  have p5 := p4.trans q5
  go_wp2
  go_ret
  exact ⟨rfl, p5⟩
end Mt
end Go.Proofs.YtciigfaojmpoiaaGreatDoor
