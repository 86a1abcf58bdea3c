/- Whole numbers as floats. NumCuts, NumBits: the walks. The text of a whole number of up to 15 digits is its digits, in plain words. esnum.Text at whole numbers, in plain words. Digits of whole numbers: the document's and the law's own. -/
import Derived.Test.YtciigfaojmpoiaaGreatDoorP10
import Derived.Test.YtciigfaojmpoiaaGreatDoorIeX
import Derived.Test.YtciigfaojmpoiaaGreatDoorFtD
import Derived.Test.YtciigfaojmpoiaaGreatDoorFtJ
import Derived.Test.YtciigfaojmpoiaaGreatDoorTbE
namespace Go.Proofs.YtciigfaojmpoiaaGreatDoor
open Go Go.RowKit
set_option linter.all false
namespace Mt
set_option exponentiation.threshold 3000
theorem write_lt (d : Ieee.Datum) : Ieee.double.write d < 18446744073709551616 := Ieee.double.write_lt d
theorem foi (z : Int) : floatOfInt .f64 z = Ieee.double.write (.number (decide (z < 0)) z.natAbs 0) := rfl
theorem int_word (z : Int) (h : z.natAbs < 9007199254740992) : ∃ c, c < 9218868437227405312 ∧ Ie.V c = z.natAbs * 2 ^ 1074 ∧ floatOfInt .f64 z = Ieee.double.word (decide (z < 0)) c := by
  obtain ⟨c, hc, hv⟩ := Ie.int_has z h
  exact ⟨c, hc, hv, by rw [foi]; exact Ie.int_sv hc hv⟩
theorem int_lt (z : Int) : floatOfInt .f64 z < 18446744073709551616 := by rw [foi]; exact write_lt _
end Mt
end Go.Proofs.YtciigfaojmpoiaaGreatDoor
namespace Go.Proofs.YtciigfaojmpoiaaGreatDoor
open Go Go.RowKit
set_option linter.all false
namespace Mt
set_option exponentiation.threshold 3000
theorem same_refl (a : Nat) : same a a = true := by
  unfold same
  rcases Ie.nan a with _ | _ <;> simp
theorem whole_lt (b : Nat) : whole b < 18446744073709551616 := by
  unfold whole
  split
  · decide
  · exact write_lt _
theorem int_fin (z : Int) (h : z.natAbs < 9007199254740992) : Ie.nan (floatOfInt .f64 z) = false ∧ inf (floatOfInt .f64 z) = false := by
  obtain ⟨c, hc, hv, e⟩ := int_word z h
  have hs := Ie.word_split (decide (z < 0)) c (by omega)
  rw [e]
  refine ⟨?_, ?_⟩
  · unfold Ie.nan; rw [hs.2, decide_eq_false_iff_not]; omega
  · unfold inf; rw [hs.2, beq_eq_false_iff_ne]; omega
/-- a whole number modulo 2^32 -/
theorem u32_int (z : Int) (h : z.natAbs < 9007199254740992) : (u32 (floatOfInt .f64 z) : Int) = z % 4294967296 := by
  obtain ⟨c, hc, hv, e⟩ := int_word z h
  obtain ⟨f1, f2⟩ := int_fin z h
  have hs := Ie.word_split (decide (z < 0)) c (by omega)
  have hw : wh (floatOfInt .f64 z) = z.natAbs := by
    unfold wh
    rw [e, hs.2, hv, Nat.mul_div_cancel _ (Nat.pow_pos (by decide))]
  unfold u32
  rw [if_neg (by rw [f1, f2]; decide), hw]
  have hlt : 9223372036854775808 ≤ floatOfInt .f64 z ↔ z < 0 := by
    rw [e]
    unfold Ieee.Format.word
    rw [Ie.d_sign]
    by_cases g : z < 0
    · rw [decide_eq_true g, if_pos rfl]; omega
    · rw [decide_eq_false g, if_neg (by decide)]; omega
  by_cases g : z < 0
  · rw [if_pos (hlt.2 g)]; omega
  · rw [if_neg (fun k => g (hlt.1 k))]; omega
set_option maxRecDepth 100000 in
set_option maxHeartbeats 4000000 in
theorem cuts_law (a b : Nat) (w : World) (ha : a < 18446744073709551616) (hb : b < 18446744073709551616) (h : Ft.AK w) :
    Calls Tryz.prog 3 #[.float .f64 a, .float .f64 b] w fun e w' => e = .returned (.bool true) ∧ Pur w w' := by
  have AW := Ft.awake_any h
  have W1 := fun w => whole_any a w ha
  have W2 := fun w => rwhole_any a w ha
  have S1 := fun w => rsame_any (whole a) (whole a) w (whole_lt a) (whole_lt a)
  rw [same_refl] at S1
  have U1 := fun w => uint32_any a w ha
  have U2 := fun w => ruint32_any a w ha
  have I1 := fun w => int32_any a w ha
  have I2 := fun w => rint32_any a w ha
  have Q1 := fun w => same_any a b w ha hb
  have Q2 := fun w => rsame_any a b w ha hb
  have Q3 := fun w => same_any a a w ha ha
  rw [same_refl] at Q3
  generalize whole a = x at *
  generalize IntKind.i32.wrap (u32 a : Nat) = i at *
  generalize u32 a = u at *
  generalize same a b = q at *
  clear h ha hb
  go_enter Tryz.func3, Tryz.ntmps3
  go_wp2_with fail
  refine AW.mono ?_
  rintro e w1 ⟨rfl, p1⟩
  go_wp2_with fail
  refine (W1 _).mono ?_
  rintro e w2 ⟨rfl, rfl⟩
  go_wp2_with fail
  refine (W2 _).mono ?_
  rintro e w2 ⟨rfl, rfl⟩
  go_wp2_with fail
  refine (S1 _).mono ?_
  rintro e w2 ⟨rfl, rfl⟩
  go_wp2_with fail
  refine (U1 _).mono ?_
  rintro e w2 ⟨rfl, rfl⟩
  go_wp2_with fail
  refine (U2 _).mono ?_
  rintro e w2 ⟨rfl, rfl⟩
  go_wp2_with fail
  refine (I1 _).mono ?_
  rintro e w2 ⟨rfl, rfl⟩
  go_wp2_with fail
  refine (I2 _).mono ?_
  rintro e w2 ⟨rfl, rfl⟩
  go_wp2_with fail
  refine (Q1 _).mono ?_
  rintro e w2 ⟨rfl, rfl⟩
  go_wp2_with fail
  refine (Q2 _).mono ?_
  rintro e w2 ⟨rfl, rfl⟩
  go_wp2_with fail
  refine (Q3 _).mono ?_
  rintro e w2 ⟨rfl, rfl⟩
  go_wp2
  go_ret
  exact ⟨rfl, p1⟩
theorem wrap_mod (m : Int) (A : Nat) (h : (A : Int) = m % 4294967296) : IntKind.i32.wrap (A : Int) = IntKind.i32.wrap m := by
  rw [IntKind.wrap_i32, IntKind.wrap_i32, h, Int.emod_add_emod]
theorem wrap_back (A : Nat) (h : A < 4294967296) : IntKind.u32.wrap (IntKind.i32.wrap (A : Int)) = (A : Int) := by
  rw [IntKind.wrap_i32, IntKind.wrap_u32]
  rw [Int.sub_emod, Int.emod_emod_of_dvd _ (Int.dvd_refl _), ← Int.sub_emod, Int.add_sub_cancel]
  exact Int.emod_eq_of_lt (by omega) (by omega)
set_option maxRecDepth 100000 in
set_option maxHeartbeats 4000000 in
theorem bits_law (n k : Int) (w : World) (hk0 : 0 ≤ k) (hk : k < 65536) (h : Ft.AK w) :
    Calls Tryz.prog 5 #[.int .i64 n, .int .u16 k] w fun e w' => e = .returned (.bool true) ∧ Pur w w' := by
  have AW := Ft.awake_any h
  obtain ⟨m, hm⟩ : ∃ m, n.tmod 281474976710656 = m := ⟨_, rfl⟩
  have hm1 : m.natAbs < 281474976710656 := by rw [← hm]; have := Int.natAbs_tmod n 281474976710656; rw [this]; exact Nat.mod_lt _ (by decide)
  have hm := Lib.hid hm
  obtain ⟨y, hy⟩ : ∃ y, m + k * 4294967296 = y := ⟨_, rfl⟩
  have hy1 : y.natAbs < 9007199254740992 := by omega
  have x1 : IntKind.i64.wrap (k * 4294967296) = k * 4294967296 := IntWalk.i64_in _ (by omega)
  have x2 : IntKind.i64.wrap k = k := IntWalk.i64_in _ (by omega)
  have x3 : IntKind.i64.wrap (m + k * 4294967296) = y := by rw [hy]; exact IntWalk.i64_in _ (by omega)
  have key : ∀ A B : Nat, (A : Int) = m % 4294967296 → (B : Int) = y % 4294967296 → B = A := fun A B h1 h2 => by omega
  have key2 : ∀ A : Nat, (A : Int) = m % 4294967296 → IntKind.i32.wrap (A : Int) = IntKind.i32.wrap m ∧ IntKind.u32.wrap (IntKind.i32.wrap (A : Int)) = (A : Int) := fun A h1 => ⟨wrap_mod m A h1, wrap_back A (by omega)⟩
  have hm2 : m.natAbs < 9007199254740992 := Nat.lt_trans hm1 (by decide)
  have H1 : ∃ (fx u : Nat), floatOfInt .f64 m = fx ∧ fx < 18446744073709551616 ∧ u32 fx = u ∧ (u : Int) = m % 4294967296 := ⟨_, _, rfl, int_lt m, rfl, u32_int m hm2⟩
  have H2 : ∃ (fy v : Nat), floatOfInt .f64 y = fy ∧ fy < 18446744073709551616 ∧ u32 fy = v ∧ (v : Int) = y % 4294967296 := ⟨_, _, rfl, int_lt y, rfl, u32_int y hy1⟩
  obtain ⟨fx, u, x4, l1, hu, e1⟩ := H1
  obtain ⟨fy, v, x5, l2, hv, e2⟩ := H2
  obtain rfl := key u v e1 e2
  obtain ⟨k1, k2⟩ := key2 _ e1
  have U1 := fun w => uint32_any fx w l1
  have U2 := fun w => uint32_any fy w l2
  have I1 := fun w => int32_any fx w l1
  rw [hu] at U1 I1
  rw [hv] at U2
  obtain ⟨W, hW⟩ : ∃ W, IntKind.i32.wrap (m : Int) = W := ⟨_, rfl⟩
  rw [k1, hW] at k2
  rw [k1, hW] at I1
  have hm' := hm.out
  clear h e1 e2 key key2 hm hy hm1 hy1 hm2 hk0 hk hu hv l1 l2 k1
  go_enter Tryz.func5, Tryz.ntmps5
  go_wp2_with fail
  refine AW.mono ?_
  rintro e w1 ⟨rfl, p1⟩
  go_wp2_with fail
  refine (I1 _).mono ?_
  rintro e w2 ⟨rfl, rfl⟩
  go_wp2_with fail
  refine (U1 _).mono ?_
  rintro e w2 ⟨rfl, rfl⟩
  go_wp2_with fail
  refine (U2 _).mono ?_
  rintro e w2 ⟨rfl, rfl⟩
  go_wp2_with fail
  refine (U1 _).mono ?_
  rintro e w2 ⟨rfl, rfl⟩
  go_wp2_with fail
  refine (I1 _).mono ?_
  rintro e w2 ⟨rfl, rfl⟩
  go_wp2
  go_ret
  exact ⟨rfl, p1⟩
end Mt
end Go.Proofs.YtciigfaojmpoiaaGreatDoor
namespace Go.Proofs.YtciigfaojmpoiaaGreatDoor
open Go Go.RowKit Go.Sort Go.Lib
set_option linter.all false
namespace Ft
open Us P10
set_option exponentiation.threshold 3000
theorem or_bit (q b : Nat) (hb : b ≤ 1) : q ≤ (q ||| b) ∧ (q ||| b) ≤ q + 1 := by
  refine ⟨Nat.left_le_or, ?_⟩
  rcases (show b = 0 ∨ b = 1 by omega) with rfl | rfl
  · rw [Nat.or_zero]; omega
  · have := Hx.half_or (2 * q + 1)
    rw [show (2 * q + 1) / 2 = q by omega, show (2 * q + 1) % 2 = 1 by omega] at this
    exact this
theorem b2_le (b : Bool) : b2 b ≤ 1 := by cases b <;> decide
theorem usc0 {x A s : Nat} (hx : x < 18446744073709551616) (hA : A < 18446744073709551616) : x * A / 2 ^ (64 + s) ≤ usc x A 0 s ∧ usc x A 0 s ≤ x * A / 2 ^ (64 + s) + 1 := by
  have e : x * A / 2 ^ (64 + s) = x * A / 18446744073709551616 / 2 ^ s := by rw [Nat.pow_add, Nat.div_div_eq_div_mul]
  have hil : x * A / 18446744073709551616 < 18446744073709551616 := Nat.div_lt_of_lt_mul (Nat.lt_of_lt_of_le (Nat.mul_lt_mul'' hx hA) (by decide))
  rw [e]
  unfold usc
  split
  · exact or_bit _ 1 (Nat.le_refl _)
  · rw [show x * 0 / 18446744073709551616 = 0 by rw [Nat.mul_zero]]
    rw [show decide (x * A % 18446744073709551616 < 0) = false by rw [decide_eq_false_iff_not]; omega]
    rw [show b2 false = 0 from rfl, Nat.sub_zero, Nat.add_mod_right, Nat.mod_eq_of_lt hil]
    exact or_bit _ _ (b2_le _)
/-- what is asked of the table at a whole number of L bits -/
def ck (L : Nat) (p : Int) (h : Nat) : Bool :=
  decide (Lo0 (p + 348).toNat = 0) && decide (Hi0 (p + 348).toNat * 2 ^ (64 - L) = 4 * 10 ^ p.toNat * 2 ^ (64 + (-((L : Int) - 64 + lg p + 3)).toNat)) &&
  decide (2 ^ (64 + (-((L : Int) - 64 + lg p + 3)).toNat) < h * Hi0 (p + 348).toNat) && decide (1024 * Hi0 (p + 348).toNat < 38 * 2 ^ (64 + (-((L : Int) - 64 + lg p + 3)).toNat)) && decide (1 ≤ p) && decide (p ≤ 20)
set_option maxRecDepth 100000 in
theorem cks : ∀ L, L < 51 → 1 ≤ L → ck L (-l10 ((L : Int) - 64 + 11)) 1024 = true ∧ ck L (-skw ((L : Int) - 64 + 11)) 512 = true := by decide +kernel
/-- the shortest digits of a whole number: its own -/
theorem sh_core {n L h m : Nat} {p : Int} (hn : 0 < n) (hm : n * 2 ^ (64 - L) = m) (hL : L ≤ 64) (hc : ck L p h = true) (hh : h ≤ m) (hh2 : h ≤ 1024) (m1 : m + 1024 < 18446744073709551616)
    (hp : pO m ((L : Int) - 64) = p) (hmn : mnO m ((L : Int) - 64) = m - h) (hmx : mxO m ((L : Int) - 64) = m + 1024) :
    sh Hi0 Lo0 m ((L : Int) - 64) = (n * 10 ^ (p.toNat - 1), -(p - 1)) := by
  unfold ck at hc
  simp only [Bool.and_eq_true, decide_eq_true_eq] at hc
  obtain ⟨⟨⟨⟨⟨c1, c2⟩, c3⟩, c4⟩, c5⟩, c6⟩ := hc
  have hA : Hi0 (p + 348).toNat < 18446744073709551616 := (pow_at (by omega)).2.2.1
  have hk : kO m ((L : Int) - 64) = (p + 348).toNat := by unfold kO; rw [hp]
  have hs : sO m ((L : Int) - 64) = (-((L : Int) - 64 + lg p + 3)).toNat := by unfold sO; rw [hp]
  have ho := odO_le m ((L : Int) - 64)
  have hu : ∀ x, uO Hi0 Lo0 m ((L : Int) - 64) x = usc x (Hi0 (p + 348).toNat) 0 (-((L : Int) - 64 + lg p + 3)).toNat := fun x => by unfold uO; rw [hk, hs, c1]
  generalize hAA : Hi0 (p + 348).toNat = A at *
  generalize hSS : (-((L : Int) - 64 + lg p + 3)).toNat = s at *
  have hT : 0 < 2 ^ (64 + s) := Nat.pow_pos (by decide)
  have u1 := usc0 (x := m - h) (s := s) (by omega) hA
  have u2 := usc0 (x := m + 1024) (s := s) m1 hA
  obtain ⟨q, hq⟩ : ∃ q, p.toNat = q + 1 := ⟨p.toNat - 1, by omega⟩
  -- m A = 4 N T
  have hmA : m * A = 4 * (n * 10 ^ p.toNat) * 2 ^ (64 + s) := by
    rw [← hm]
    calc n * 2 ^ (64 - L) * A = n * (A * 2 ^ (64 - L)) := by rw [Nat.mul_assoc, Nat.mul_comm (2 ^ (64 - L)) A]
      _ = n * (4 * 10 ^ p.toNat * 2 ^ (64 + s)) := by rw [c2]
      _ = 4 * (n * 10 ^ p.toNat) * 2 ^ (64 + s) := by rw [← Nat.mul_assoc, ← Nat.mul_assoc, Nat.mul_comm n 4, Nat.mul_assoc 4]
  have hN : n * 10 ^ p.toNat = 10 * (n * 10 ^ q) := by rw [hq, Nat.pow_succ, Nat.mul_comm (10 ^ q) 10, ← Nat.mul_assoc, Nat.mul_comm n 10, Nat.mul_assoc]
  have hM : 0 < n * 10 ^ q := Nat.mul_pos hn (Nat.pow_pos (by decide))
  rw [hN] at hmA
  rw [show p.toNat - 1 = q by omega]
  generalize n * 10 ^ q = M at *
  generalize 2 ^ (64 + s) = T at *
  have b1 : (m - h) * A / T ≤ 4 * (10 * M) - 2 := by
    have e : (m - h) * A + h * A = 4 * (10 * M) * T := by rw [← Nat.add_mul, Nat.sub_add_cancel hh, hmA]
    have e3 : (4 * (10 * M) - 1) * T = 4 * (10 * M) * T - T := by rw [Nat.sub_mul, Nat.one_mul]
    have : (m - h) * A / T < 4 * (10 * M) - 1 := by
      rw [Nat.div_lt_iff_lt_mul hT, e3]
      generalize 4 * (10 * M) * T = P at *
      generalize (m - h) * A = Q at *
      generalize h * A = R at *
      omega
    omega
  have b2 : 4 * (10 * M) + 1 ≤ (m + 1024) * A / T ∧ (m + 1024) * A / T ≤ 4 * (10 * M) + 37 := by
    have e : (m + 1024) * A = 1024 * A + 4 * (10 * M) * T := by rw [Nat.add_mul, hmA, Nat.add_comm]
    have c3' : T ≤ 1024 * A := Nat.le_of_lt (Nat.lt_of_lt_of_le c3 (Nat.mul_le_mul_right _ hh2))
    rw [e, Nat.add_mul_div_right _ _ hT]
    have d1 : 1 ≤ 1024 * A / T := (Nat.le_div_iff_mul_le hT).2 (by omega)
    have d2 : 1024 * A / T < 38 := (Nat.div_lt_iff_lt_mul hT).2 c4
    omega
  have e1 : dmn Hi0 Lo0 m ((L : Int) - 64) ≤ 10 * M := by unfold dmn; rw [hmn, hu]; omega
  have e2 : 10 * M ≤ dmx Hi0 Lo0 m ((L : Int) - 64) ∧ dmx Hi0 Lo0 m ((L : Int) - 64) ≤ 10 * M + 9 := by unfold dmx; rw [hmx, hu]; omega
  unfold sh
  rw [if_pos (by omega), hp]
  congr 1
  omega
/-- a whole number's bits -/
theorem bits_whole {n L : Nat} (h0 : 2 ^ (L - 1) ≤ n) (h1 : n < 2 ^ L) (hL : 1 ≤ L) (hL2 : L < 51) :
    ∃ b, floatOfInt .f64 (n : Int) = b ∧ 0 < b ∧ b < 9218868437227405312 ∧ mO b = n * 2 ^ (64 - L) ∧ EO b = (L : Int) - 64 := by
  have hn : n < 9007199254740992 := Nat.lt_of_lt_of_le h1 (Nat.pow_le_pow_right (n := 2) (by decide) (show L ≤ 53 by omega))
  obtain ⟨c, hc, hv, e⟩ := Mt.int_word (n : Int) (by omega)
  rw [show decide ((n : Int) < 0) = false by rw [decide_eq_false_iff_not]; omega] at e
  rw [show Ieee.double.word false c = c from rfl] at e
  have a0 : 4503599627370496 ≤ n * 2 ^ (53 - L) := by
    calc 4503599627370496 = 2 ^ (L - 1) * 2 ^ (53 - L) := by rw [← Nat.pow_add, show L - 1 + (53 - L) = 52 by omega]
      _ ≤ n * 2 ^ (53 - L) := Nat.mul_le_mul_right _ h0
  have a1 : n * 2 ^ (53 - L) < 9007199254740992 := by
    calc n * 2 ^ (53 - L) < 2 ^ L * 2 ^ (53 - L) := Nat.mul_lt_mul_of_pos_right h1 (Nat.pow_pos (by decide))
      _ = 9007199254740992 := by rw [← Nat.pow_add, show L + (53 - L) = 53 by omega]
  obtain ⟨M, hM⟩ : ∃ M, n * 2 ^ (53 - L) = M := ⟨_, rfl⟩
  rw [hM] at a0 a1
  obtain ⟨b, hb⟩ : ∃ b, (L + 1022) * 4503599627370496 + (M - 4503599627370496) = b := ⟨_, rfl⟩
  have d1 : b / 4503599627370496 = L + 1022 := by omega
  have d2 : b % 4503599627370496 = M - 4503599627370496 := by omega
  have hcb : c = b := by
    apply Ie.V_inj
    rw [hv]
    unfold Ie.V
    rw [if_neg (by omega), d1, d2]
    have key : ∀ T, 53 - L + (L + 1022 - 1) = T → n * 2 ^ T = n * 2 ^ (53 - L) * 2 ^ (L + 1022 - 1) := fun T hT => by rw [Nat.mul_assoc, ← Nat.pow_add, hT]
    have hM3 : n * 2 ^ (53 - L) = 4503599627370496 + (M - 4503599627370496) := hM.trans (by omega)
    exact (key 1074 (by omega)).trans (congrArg (· * 2 ^ (L + 1022 - 1)) hM3)
  subst hcb
  have hma : maO c = M := by
    unfold maO exO
    rw [if_neg (by omega), d2]; omega
  have hbl : Lib.bitLen M = 53 := bitLen_eq (k := 52) a0 a1 (by omega)
  have hsh : shO c = 11 := by unfold shO; rw [hma, hbl]
  refine ⟨c, e, by omega, hc, ?_, ?_⟩
  · unfold mO
    rw [hma, hsh, ← hM, Nat.mul_assoc, ← Nat.pow_add, show 53 - L + 11 = 64 - L by omega]
  · unfold EO exO
    rw [d1, hsh, if_neg (by omega)]
    omega
theorem bits_of (n : Nat) (h : 0 < n) (h1 : n < 1125899906842624) : ∃ L, 2 ^ (L - 1) ≤ n ∧ n < 2 ^ L ∧ 1 ≤ L ∧ L < 51 := by
  refine ⟨n.log2 + 1, (Nat.le_log2 (by omega)).1 (Nat.le_refl _), (Nat.log2_lt (by omega)).1 (Nat.lt_succ_self _), by omega, ?_⟩
  have : n.log2 < 50 := (Nat.log2_lt (by omega)).2 h1
  omega
theorem sh_whole {n L : Nat} (h0 : 2 ^ (L - 1) ≤ n) (h1 : n < 2 ^ L) (hL : 1 ≤ L) (hL2 : L < 51) : ∃ q : Nat, q ≤ 20 ∧ sh Hi0 Lo0 (n * 2 ^ (64 - L)) ((L : Int) - 64) = (n * 10 ^ q, -(q : Int)) := by
  have hn : 0 < n := Nat.lt_of_lt_of_le (Nat.pow_pos (by decide)) h0
  obtain ⟨k1, k2⟩ := cks L hL2 hL
  obtain ⟨m, hm⟩ : ∃ m, n * 2 ^ (64 - L) = m := ⟨_, rfl⟩
  have m0 : 9223372036854775808 ≤ m := by
    rw [← hm]
    calc 9223372036854775808 = 2 ^ (L - 1) * 2 ^ (64 - L) := by rw [← Nat.pow_add, show L - 1 + (64 - L) = 63 by omega]
      _ ≤ n * 2 ^ (64 - L) := Nat.mul_le_mul_right _ h0
  have m1 : m + 16384 ≤ 18446744073709551616 := by
    have e1 : (n + 1) * 2 ^ (64 - L) ≤ 18446744073709551616 := by
      calc (n + 1) * 2 ^ (64 - L) ≤ 2 ^ L * 2 ^ (64 - L) := Nat.mul_le_mul_right _ h1
        _ = 18446744073709551616 := by rw [← Nat.pow_add, show L + (64 - L) = 64 by omega]
    have e2 : 16384 ≤ 2 ^ (64 - L) := Nat.pow_le_pow_right (n := 2) (by decide) (show 14 ≤ 64 - L by omega)
    rw [Nat.add_mul, hm, Nat.one_mul] at e1
    omega
  have hz : zO ((L : Int) - 64) = 11 := by unfold zO; rw [if_pos (by omega)]
  rw [hm]
  by_cases g : edge m ((L : Int) - 64) = true
  · have hp : pO m ((L : Int) - 64) = -skw ((L : Int) - 64 + 11) := by unfold pO; rw [if_pos g]
    have := sh_core hn hm (by omega) k2 (by omega) (by decide) (by omega) hp (by unfold mnO; rw [if_pos g]) (by unfold mxO; rw [if_pos g])
    unfold ck at k2
    simp only [Bool.and_eq_true, decide_eq_true_eq] at k2
    generalize -skw ((L : Int) - 64 + 11) = p at *
    exact ⟨p.toNat - 1, by omega, by rw [this]; congr 1; omega⟩
  · have hp : pO m ((L : Int) - 64) = -l10 ((L : Int) - 64 + 11) := by unfold pO; rw [if_neg g, hz]; rfl
    have := sh_core hn hm (by omega) k1 (by omega) (by decide) (by omega) hp (by unfold mnO; rw [if_neg g, hz]) (by unfold mxO; rw [if_neg g, hz])
    unfold ck at k1
    simp only [Bool.and_eq_true, decide_eq_true_eq] at k1
    generalize -l10 ((L : Int) - 64 + 11) = p at *
    exact ⟨p.toNat - 1, by omega, by rw [this]; congr 1; omega⟩
end Ft
end Go.Proofs.YtciigfaojmpoiaaGreatDoor
namespace Go.Proofs.YtciigfaojmpoiaaGreatDoor
open Go Go.RowKit Go.Sort Go.Lib
set_option linter.all false
namespace Ft
open Us P10
theorem dec_ten {x : Nat} (h : 0 < x) : decDigits (x * 10) = decDigits x ++ [48] := by
  rw [decDigits, dif_neg (by omega), show x * 10 / 10 = x by omega, show x * 10 % 10 = 0 by omega]
  rfl
theorem cutz_nought (l : List UInt8) : cutz (l ++ [48]) = cutz l := by
  unfold cutz
  rw [List.reverse_append]
  rfl
theorem dgT_ten {n : Nat} (h : 0 < n) : ∀ q, dgT (n * 10 ^ q) = dgT n ∧ nDigits (n * 10 ^ q) = nDigits n + q
  | 0 => by rw [Nat.pow_zero, Nat.mul_one]; exact ⟨rfl, rfl⟩
  | q + 1 => by
    obtain ⟨h1, h2⟩ := dgT_ten h q
    have hp : 0 < n * 10 ^ q := Nat.mul_pos h (Nat.pow_pos (by decide))
    have e : n * 10 ^ (q + 1) = n * 10 ^ q * 10 := by rw [Nat.pow_succ, Nat.mul_assoc]
    refine ⟨?_, ?_⟩
    · rw [← h1, e]
      unfold dgT
      rw [dec_ten hp, cutz_nought]
    · rw [e, ← decDigits_length, dec_ten hp, List.length_append, decDigits_length, h2]
      rfl
theorem rep_eq (c : UInt8) : ∀ k, Lib.repeatL [c] k = List.replicate k c
  | 0 => rfl
  | k + 1 => by rw [Lib.repeatL, rep_eq c k]; rfl
theorem dw_rep : ∀ l : List UInt8, ∃ k, l = List.replicate k 48 ++ l.dropWhile (· == 48)
  | [] => ⟨0, rfl⟩
  | x :: l => by
    by_cases g : x = 48
    · obtain ⟨k, hk⟩ := dw_rep l
      refine ⟨k + 1, ?_⟩
      rw [List.dropWhile_cons, if_pos (by rw [g]; rfl), List.replicate_succ, List.cons_append, ← hk, g]
    · refine ⟨0, ?_⟩
      rw [List.dropWhile_cons, if_neg (by simpa using g)]
      rfl
theorem cutz_fill (l : List UInt8) : cutz l ++ Lib.repeatL [48] (l.length - (cutz l).length) = l := by
  obtain ⟨k, hk⟩ := dw_rep l.reverse
  have h := congrArg List.reverse hk
  rw [List.reverse_reverse, List.reverse_append, List.reverse_replicate] at h
  have hc : l = cutz l ++ List.replicate k 48 := h
  rw [rep_eq]
  have hl := congrArg List.length hc
  rw [List.length_append, List.length_replicate] at hl
  rw [show l.length - (cutz l).length = k by omega]
  exact hc.symm
theorem cutz_le (l : List UInt8) : (cutz l).length ≤ l.length := by
  rw [cutz_take]
  simp only [List.length_take]
  omega
/-- the text of a whole number -/
theorem tx_whole {n : Nat} (h : 0 < n) (h1 : n < 1125899906842624) : ∃ b, floatOfInt .f64 (n : Int) = b ∧ 0 < b ∧ b < 9218868437227405312 ∧ tx Hi0 Lo0 b = decDigits n := by
  obtain ⟨L, l0, l1, l2, l3⟩ := bits_of n h h1
  obtain ⟨b, e, b0, b1, hm, hE⟩ := bits_whole l0 l1 l2 l3
  obtain ⟨q, hq, hs⟩ := sh_whole l0 l1 l2 l3
  refine ⟨b, e, b0, b1, ?_⟩
  obtain ⟨d1, d2⟩ := dgT_ten h q
  have hd : dO Hi0 Lo0 b = (n * 10 ^ q, -(q : Int)) := by unfold dO; rw [hm, hE, hs]
  have hnd : nDigits n ≤ 20 := Lib.nDigits_le20 n (by omega)
  unfold tx
  rw [hd]
  show lay (dgT (n * 10 ^ q)) ((nDigits (n * 10 ^ q) : Int) + -(q : Int)) = _
  rw [d1, d2, show ((nDigits n + q : Nat) : Int) + -(q : Int) = (nDigits n : Int) by omega]
  have hl : (decDigits n).length = nDigits n := decDigits_length n
  have hc := cutz_le (decDigits n)
  rw [hl] at hc
  unfold lay
  unfold dgT
  rw [if_pos ⟨by omega, by omega⟩]
  have := cutz_fill (decDigits n)
  rw [hl] at this
  rw [show ((nDigits n : Int) - ((cutz (decDigits n)).length : Int)).toNat = nDigits n - (cutz (decDigits n)).length by omega]
  exact this
/-- a whole number's digits, a sign ahead -/
def zT (z : Int) : List UInt8 := if z < 0 then 45 :: decDigits z.natAbs else decDigits z.natAbs
theorem txt_whole (z : Int) (h1 : z.natAbs < 1125899906842624) : txt Hi0 Lo0 (floatOfInt .f64 z) = zT z := by
  by_cases h0 : z = 0
  · subst h0
    decide +kernel
  obtain ⟨b, e, b0, b1, ht⟩ := tx_whole (n := z.natAbs) (by omega) h1
  obtain ⟨c, hc, hv, hz⟩ := Mt.int_word z (by omega)
  obtain ⟨c', hc', hv', hz'⟩ := Mt.int_word (z.natAbs : Int) (by omega)
  rw [show decide ((z.natAbs : Int) < 0) = false by rw [decide_eq_false_iff_not]; omega] at hz'
  have hcc : c = b := by
    apply Ie.V_inj
    rw [hv, ← e, hz', show Ieee.double.word false c' = c' from rfl, hv', Int.natAbs_natCast]
  subst hcc
  have hs := Ie.word_split (decide (z < 0)) c (by omega)
  have hp : txp Hi0 Lo0 c = decDigits z.natAbs := by unfold txp; rw [if_neg (by omega), ht]
  rw [hz]
  unfold txt
  rw [if_neg (by unfold Ie.nan; rw [hs.2, decide_eq_true_eq]; omega), if_neg (by rw [hs.2]; omega), hs.2, hp]
  have hlt : 9223372036854775808 ≤ Ieee.double.word (decide (z < 0)) c ↔ z < 0 := by
    unfold Ieee.Format.word
    rw [Ie.d_sign]
    by_cases g : z < 0
    · rw [decide_eq_true g, if_pos rfl]; omega
    · rw [decide_eq_false g, if_neg (by decide)]; omega
  unfold zT
  simp only [hlt]
end Ft
end Go.Proofs.YtciigfaojmpoiaaGreatDoor
namespace Go.Proofs.YtciigfaojmpoiaaGreatDoor
open Go Go.RowKit
set_option linter.all false
section
variable {P : Program} {ops : Array Oper} {Q : Exit → Act → World → Prop} {md : Region.Mode} {T : World → Prop} {d : Nat}
/-- two come up now -/
theorem wpAnyU_two {i j : Nat} {o o2 : Oper} {f : Nat} {s : Array Bool} {a : Act} {w : World} (hr : Region.ready md ops s = [i, j]) (ho : ops[i]? = some o) (ho2 : ops[j]? = some o2)
    (h : ∀ K' : Act → World → Prop, Shut (∀ a w, T w → (T w → wpAnyU P md ops Q T d f (s.setIfInBounds i true) a w) → K' a w) → if Region.wanted o (yielded ops a.tmps) = true then Oper.wp P o a w K' Q else K' (a.put o.dst undef) w)
    (h2 : ∀ K' : Act → World → Prop, Shut (∀ a w, T w → (T w → wpAnyU P md ops Q T d f (s.setIfInBounds j true) a w) → K' a w) → if Region.wanted o2 (yielded ops a.tmps) = true then Oper.wp P o2 a w K' Q else K' (a.put o2.dst undef) w) :
    wpAnyU P md ops Q T d (f + 1) s a w := by
  refine ⟨fun h0 => (by rw [hr] at h0; cases h0), fun k hk => ?_⟩
  rw [hr] at hk
  rcases List.mem_cons.1 hk with e | e
  · subst e
    exact wpOp_step ho (fun K' hK => h K' (fun a w hT hW => hK a w ⟨fun _ => hT, hW hT⟩))
  · have : k = j := by simpa using e
    subst this
    exact wpOp_step ho2 (fun K' hK => h2 K' (fun a w hT hW => hK a w ⟨fun _ => hT, hW hT⟩))
end
namespace Ft
theorem dec_le (u : Nat) (h : u ≤ 9223372036854775807) : (Lib.decDigits u).length ≤ 20 := by
  rw [Lib.decDigits_length]
  exact Lib.nDigits_le20 u (by omega)
set_option maxRecDepth 100000 in
set_option maxHeartbeats 8000000 in
theorem rdec_any (n : Nat) (w : World) (hn : n ≤ 9223372036854775807) :
    Calls Tryz.prog 19 #[.int .i64 (n : Int)] w fun e w' => e = .returned (.string ⟨(Lib.decDigits n).toArray⟩) ∧ Pur w w' := by
  induction n using Nat.strongRecOn generalizing w with
  | _ n ih =>
    have hm10 : n % 10 < 10 := Nat.mod_lt _ (by decide)
    have w0 : IntKind.i64.wrap (48 + ((n % 10 : Nat) : Int)) = 48 + ((n % 10 : Nat) : Int) := IntWalk.i64_in _ (by omega)
    have e1 : (n : Int).tmod 10 = ((n % 10 : Nat) : Int) := by rw [Int.tmod_eq_emod_of_nonneg (by omega)]; omega
    have e2 : (n : Int).tdiv 10 = ((n / 10 : Nat) : Int) := by rw [Int.tdiv_eq_ediv_of_nonneg (by omega)]; omega
    have e3 : (n : Int) % 10 = ((n % 10 : Nat) : Int) := by omega
    have e4 : (n : Int) / 10 = ((n / 10 : Nat) : Int) := by omega
    by_cases h10 : n < 10
    · have HS := Lib.hid (show Lib.decDigits n = [UInt8.ofNat (48 + n)] by rw [Lib.decDigits, dif_pos h10])
      have d1 : decide ((n : Int) < 10) = true := by rw [decide_eq_true_eq]; omega
      have w1 : IntKind.i64.wrap (48 + (n : Int)) = 48 + (n : Int) := IntWalk.i64_in _ (by omega)
      clear ih e1 e2 e3 e4 w0
      go_enter Tryz.func19, Tryz.ntmps19
      go_wp2
      go_ret
      exact ⟨by rw [HS.out]; rfl, (Pur.refl _).alloc _⟩
    · have HS := Lib.hid (show Lib.decDigits n = Lib.decDigits (n / 10) ++ [UInt8.ofNat (48 + n % 10)] by rw [Lib.decDigits, dif_neg h10])
      have d1 : decide ((n : Int) < 10) = false := by rw [decide_eq_false_iff_not]; omega
      have hlen := dec_le (n / 10) (by omega)
      have IH : ∀ w, Calls Tryz.prog 19 #[.int .i64 ((n / 10 : Nat) : Int)] w fun e w' => e = .returned (.string ⟨(Lib.decDigits (n / 10)).toArray⟩) ∧ Pur w w' := fun w => ih (n / 10) (by omega) w (by omega)
      have wq : IntKind.i64.wrap ((n / 10 : Nat) : Int) = ((n / 10 : Nat) : Int) := IntWalk.i64_in _ (by omega)
      have w8 : IntKind.u8.wrap (48 + ((n % 10 : Nat) : Int)) = 48 + ((n % 10 : Nat) : Int) := IntWalk.u8_in _ (by omega)
      generalize n % 10 = r at *
      generalize Lib.decDigits (n / 10) = D at *
      generalize n / 10 = q at *
      have z1 : ¬ 9223372036854775807 < D.length + 1 := by omega
      have SC : ∀ (W : World) (B : Nat), W.heap[B]? = some (.cells #[.int .u8 (48 + (r : Int))] 5 (0, 0)) → (convert 55 9 (.slice (some ⟨B, 0, none⟩) 1 1)).run Tryz.prog W = .ok (.string ⟨#[B8 (48 + (r : Int))]⟩) W := fun W B hB =>
        run_str_of_cells W 55 9 5 ⟨B, 0, none⟩ 1 1 [48 + (r : Int)] rfl Tryz.underlying55 Tryz.underlying5 Tryz.underlying9 (fun j hj => by
          obtain rfl : j = 0 := by omega
          exact bk_cell hB 0 _ rfl)
      clear ih
      go_enter Tryz.func19, Tryz.ntmps19
      go_upto_region 3 with (fail)
      refine wp_region_until (T := fun w' => 0 ≤ w'.heap.size) 10 (by kernel_rfl) (Nat.zero_le _) (fun hT => ?_)
      refine wpAnyU_take (i := 0) (v := ?vu8) rfl (by kernel_rfl) (by kernel_rfl) (by kernel_rfl) (by kernel_rfl) (by kernel_rfl) (fun _ _ _ h => h) (Or.inl ⟨by rfl, ?hu8⟩) (by assumption) ?ru8
      case hu8 => (intro w9 hSw; (try dsimp only at hSw); go_simp; (try with_reducible rfl))
      simp only [Act.put, List.setIfInBounds_toArray, List.set_cons_zero, List.set_cons_succ]
      refine wpAnyU_take (i := 1) (v := ?vu9) rfl (by kernel_rfl) (by kernel_rfl) (by kernel_rfl) (by kernel_rfl) (by kernel_rfl) (fun _ _ _ h => h) (Or.inl ⟨by rfl, ?hu9⟩) (by assumption) ?ru9
      case hu9 => (intro w9 hSw; (try dsimp only at hSw); go_simp; (try with_reducible rfl))
      simp only [Act.put, List.setIfInBounds_toArray, List.set_cons_zero, List.set_cons_succ]
      refine wpAnyU_take (i := 3) (v := ?vu10) rfl (by kernel_rfl) (by kernel_rfl) (by kernel_rfl) (by kernel_rfl) (by kernel_rfl) (fun _ _ _ h => h) (Or.inl ⟨by rfl, ?hu10⟩) (by assumption) ?ru10
      case hu10 => (intro w9 hSw; (try dsimp only at hSw); go_simp; (try with_reducible rfl))
      simp only [Act.put, List.setIfInBounds_toArray, List.set_cons_zero, List.set_cons_succ]
      refine wpAnyU_take (i := 4) (v := ?vu11) rfl (by kernel_rfl) (by kernel_rfl) (by kernel_rfl) (by kernel_rfl) (by kernel_rfl) (fun _ _ _ h => h) (Or.inl ⟨by rfl, ?hu11⟩) (by assumption) ?ru11
      case hu11 => (intro w9 hSw; (try dsimp only at hSw); go_simp; (try with_reducible rfl))
      simp only [Act.put, List.setIfInBounds_toArray, List.set_cons_zero, List.set_cons_succ]
      refine wpAnyU_take (i := 5) (v := ?vu12) rfl (by kernel_rfl) (by kernel_rfl) (by kernel_rfl) (by kernel_rfl) (by kernel_rfl) (fun _ _ _ h => h) (Or.inl ⟨by rfl, ?hu12⟩) (by assumption) ?ru12
      case hu12 => (intro w9 hSw; (try dsimp only at hSw); go_simp; (try with_reducible rfl))
      simp only [Act.put, List.setIfInBounds_toArray, List.set_cons_zero, List.set_cons_succ]
      refine wpAnyU_take (i := 6) (v := ?vu13) rfl (by kernel_rfl) (by kernel_rfl) (by kernel_rfl) (by kernel_rfl) (by kernel_rfl) (fun _ _ _ h => h) (Or.inl ⟨by rfl, ?hu13⟩) (by assumption) ?ru13
      case hu13 => (intro w9 hSw; (try dsimp only at hSw); go_simp; (try with_reducible rfl))
      simp only [Act.put, List.setIfInBounds_toArray, List.set_cons_zero, List.set_cons_succ]
      refine wpAnyU_two (i := 2) (j := 7) (by kernel_rfl) rfl rfl (fun K hK => ?_) (fun K hK => ?_)
      · go_simp
        refine (IH _).mono ?_
        rintro e w1 ⟨rfl, p1⟩
        have p1' : Pur w w1 := ((Pur.refl w).drew).trans p1
        refine hK.out _ _ ?_ (fun hT => ?_)
        clear hK K
        try simp only [Act.put, List.setIfInBounds_toArray, List.set_cons_zero, List.set_cons_succ]
        · exact Nat.zero_le _
        refine wpAnyU_next (i := 7) (by kernel_rfl) rfl (fun K hK => ?_)
        go_simp
        refine hK.out _ _ ?_ (fun hT => ?_)
        clear hK K
        try simp only [Act.put, List.setIfInBounds_toArray, List.set_cons_zero, List.set_cons_succ]
        · exact Nat.zero_le _
        refine wpAnyU_next (i := 8) (by kernel_rfl) rfl (fun K hK => ?_)
        go_simp
        refine hK.out _ _ ?_ (fun hT => ?_)
        clear hK K
        try simp only [Act.put, List.setIfInBounds_toArray, List.set_cons_zero, List.set_cons_succ]
        · exact Nat.zero_le _
        refine wpAnyU_next (i := 9) (by kernel_rfl) rfl (fun K hK => ?_)
        go_simp
        refine hK.out _ _ ?_ (fun hT => ?_)
        clear hK K
        try simp only [Act.put, List.setIfInBounds_toArray, List.set_cons_zero, List.set_cons_succ]
        · exact Nat.zero_le _
        refine wpAnyU_tail 10 (by kernel_rfl) ?_
        simp only [List.drop_succ_cons, List.drop_zero]
        go_wp2
        go_ret
        exact ⟨by rw [HS.out]; rfl, p1'.alloc _⟩
      · go_simp
        have b0 := bk_new w (.cells #[.int .u8 (48 + (r : Int))] 5)
        refine hK.out _ _ ?_ (fun hT => ?_)
        clear hK K
        try simp only [Act.put, List.setIfInBounds_toArray, List.set_cons_zero, List.set_cons_succ]
        · exact Nat.zero_le _
        refine wpAnyU_two (i := 2) (j := 8) (by kernel_rfl) rfl rfl (fun K hK => ?_) (fun K hK => ?_)
        · go_simp
          refine (IH _).mono ?_
          rintro e w1 ⟨rfl, p1⟩
          have p1' : Pur w w1 := (((Pur.refl w).drew).alloc _).trans p1
          have s8 := SC w1 _ (bk_pur b0 (((Pur.refl _).drew).trans p1))
          refine hK.out _ _ ?_ (fun hT => ?_)
          clear hK K
          try simp only [Act.put, List.setIfInBounds_toArray, List.set_cons_zero, List.set_cons_succ]
          · exact Nat.zero_le _
          refine wpAnyU_next (i := 8) (by kernel_rfl) rfl (fun K hK => ?_)
          go_simp
          refine hK.out _ _ ?_ (fun hT => ?_)
          clear hK K
          try simp only [Act.put, List.setIfInBounds_toArray, List.set_cons_zero, List.set_cons_succ]
          · exact Nat.zero_le _
          refine wpAnyU_next (i := 9) (by kernel_rfl) rfl (fun K hK => ?_)
          go_simp
          refine hK.out _ _ ?_ (fun hT => ?_)
          clear hK K
          try simp only [Act.put, List.setIfInBounds_toArray, List.set_cons_zero, List.set_cons_succ]
          · exact Nat.zero_le _
          refine wpAnyU_tail 10 (by kernel_rfl) ?_
          simp only [List.drop_succ_cons, List.drop_zero]
          go_wp2
          go_ret
          exact ⟨by rw [HS.out]; rfl, p1'⟩
        · have s8 := SC _ _ (bk_pur b0 ((Pur.refl _).drew))
          go_simp
          refine hK.out _ _ ?_ (fun hT => ?_)
          clear hK K
          try simp only [Act.put, List.setIfInBounds_toArray, List.set_cons_zero, List.set_cons_succ]
          · exact Nat.zero_le _
          refine wpAnyU_next (i := 2) (by kernel_rfl) rfl (fun K hK => ?_)
          go_simp
          refine (IH _).mono ?_
          rintro e w1 ⟨rfl, p1⟩
          have p1' : Pur w w1 := (((Pur.refl w).drew).alloc _).trans p1
          refine hK.out _ _ ?_ (fun hT => ?_)
          clear hK K
          try simp only [Act.put, List.setIfInBounds_toArray, List.set_cons_zero, List.set_cons_succ]
          · exact Nat.zero_le _
          refine wpAnyU_next (i := 9) (by kernel_rfl) rfl (fun K hK => ?_)
          go_simp
          refine hK.out _ _ ?_ (fun hT => ?_)
          clear hK K
          try simp only [Act.put, List.setIfInBounds_toArray, List.set_cons_zero, List.set_cons_succ]
          · exact Nat.zero_le _
          refine wpAnyU_tail 10 (by kernel_rfl) ?_
          simp only [List.drop_succ_cons, List.drop_zero]
          go_wp2
          go_ret
          exact ⟨by rw [HS.out]; rfl, p1'⟩
set_option maxRecDepth 100000 in
set_option maxHeartbeats 8000000 in
theorem ldig_any (n : Nat) (w : World) (hn : n ≤ 9223372036854775807) :
    Calls Tryz.prog 20 #[.int .i64 (n : Int)] w fun e w' => e = .returned (.string ⟨(Lib.decDigits n).toArray⟩) ∧ Pur w w' := by
  induction n using Nat.strongRecOn generalizing w with
  | _ n ih =>
    have hm10 : n % 10 < 10 := Nat.mod_lt _ (by decide)
    have w0 : IntKind.i64.wrap (48 + ((n % 10 : Nat) : Int)) = 48 + ((n % 10 : Nat) : Int) := IntWalk.i64_in _ (by omega)
    have e1 : (n : Int).tmod 10 = ((n % 10 : Nat) : Int) := by rw [Int.tmod_eq_emod_of_nonneg (by omega)]; omega
    have e2 : (n : Int).tdiv 10 = ((n / 10 : Nat) : Int) := by rw [Int.tdiv_eq_ediv_of_nonneg (by omega)]; omega
    have e3 : (n : Int) % 10 = ((n % 10 : Nat) : Int) := by omega
    have e4 : (n : Int) / 10 = ((n / 10 : Nat) : Int) := by omega
    have d0 : decide ((n : Int) < 0) = false := by rw [decide_eq_false_iff_not]; omega
    by_cases h10 : n < 10
    · have HS := Lib.hid (show Lib.decDigits n = [UInt8.ofNat (48 + n)] by rw [Lib.decDigits, dif_pos h10])
      have d1 : decide ((n : Int) < 10) = true := by rw [decide_eq_true_eq]; omega
      have w1 : IntKind.i64.wrap (48 + (n : Int)) = 48 + (n : Int) := IntWalk.i64_in _ (by omega)
      clear ih e1 e2 e3 e4 w0
      go_enter Tryz.func20, Tryz.ntmps20
      go_wp2
      go_ret
      exact ⟨by rw [HS.out]; rfl, (Pur.refl _).alloc _⟩
    · have HS := Lib.hid (show Lib.decDigits n = Lib.decDigits (n / 10) ++ [UInt8.ofNat (48 + n % 10)] by rw [Lib.decDigits, dif_neg h10])
      have d1 : decide ((n : Int) < 10) = false := by rw [decide_eq_false_iff_not]; omega
      have hlen := dec_le (n / 10) (by omega)
      have IH : ∀ w, Calls Tryz.prog 20 #[.int .i64 ((n / 10 : Nat) : Int)] w fun e w' => e = .returned (.string ⟨(Lib.decDigits (n / 10)).toArray⟩) ∧ Pur w w' := fun w => ih (n / 10) (by omega) w (by omega)
      have wq : IntKind.i64.wrap ((n / 10 : Nat) : Int) = ((n / 10 : Nat) : Int) := IntWalk.i64_in _ (by omega)
      have w8 : IntKind.u8.wrap (48 + ((n % 10 : Nat) : Int)) = 48 + ((n % 10 : Nat) : Int) := IntWalk.u8_in _ (by omega)
      generalize n % 10 = r at *
      generalize Lib.decDigits (n / 10) = D at *
      generalize n / 10 = q at *
      have z1 : ¬ 9223372036854775807 < D.length + 1 := by omega
      have SC : ∀ (W : World) (B : Nat), W.heap[B]? = some (.cells #[.int .u8 (48 + (r : Int))] 5 (0, 0)) → (convert 55 9 (.slice (some ⟨B, 0, none⟩) 1 1)).run Tryz.prog W = .ok (.string ⟨#[B8 (48 + (r : Int))]⟩) W := fun W B hB =>
        run_str_of_cells W 55 9 5 ⟨B, 0, none⟩ 1 1 [48 + (r : Int)] rfl Tryz.underlying55 Tryz.underlying5 Tryz.underlying9 (fun j hj => by
          obtain rfl : j = 0 := by omega
          exact bk_cell hB 0 _ rfl)
      clear ih
      go_enter Tryz.func20, Tryz.ntmps20
      go_upto_region 5 with (fail)
      refine wp_region_until (T := fun w' => 0 ≤ w'.heap.size) 10 (by kernel_rfl) (Nat.zero_le _) (fun hT => ?_)
      refine wpAnyU_take (i := 0) (v := ?vu14) rfl (by kernel_rfl) (by kernel_rfl) (by kernel_rfl) (by kernel_rfl) (by kernel_rfl) (fun _ _ _ h => h) (Or.inl ⟨by rfl, ?hu14⟩) (by assumption) ?ru14
      case hu14 => (intro w9 hSw; (try dsimp only at hSw); go_simp; (try with_reducible rfl))
      simp only [Act.put, List.setIfInBounds_toArray, List.set_cons_zero, List.set_cons_succ]
      refine wpAnyU_take (i := 1) (v := ?vu15) rfl (by kernel_rfl) (by kernel_rfl) (by kernel_rfl) (by kernel_rfl) (by kernel_rfl) (fun _ _ _ h => h) (Or.inl ⟨by rfl, ?hu15⟩) (by assumption) ?ru15
      case hu15 => (intro w9 hSw; (try dsimp only at hSw); go_simp; (try with_reducible rfl))
      simp only [Act.put, List.setIfInBounds_toArray, List.set_cons_zero, List.set_cons_succ]
      refine wpAnyU_take (i := 3) (v := ?vu16) rfl (by kernel_rfl) (by kernel_rfl) (by kernel_rfl) (by kernel_rfl) (by kernel_rfl) (fun _ _ _ h => h) (Or.inl ⟨by rfl, ?hu16⟩) (by assumption) ?ru16
      case hu16 => (intro w9 hSw; (try dsimp only at hSw); go_simp; (try with_reducible rfl))
      simp only [Act.put, List.setIfInBounds_toArray, List.set_cons_zero, List.set_cons_succ]
      refine wpAnyU_take (i := 4) (v := ?vu17) rfl (by kernel_rfl) (by kernel_rfl) (by kernel_rfl) (by kernel_rfl) (by kernel_rfl) (fun _ _ _ h => h) (Or.inl ⟨by rfl, ?hu17⟩) (by assumption) ?ru17
      case hu17 => (intro w9 hSw; (try dsimp only at hSw); go_simp; (try with_reducible rfl))
      simp only [Act.put, List.setIfInBounds_toArray, List.set_cons_zero, List.set_cons_succ]
      refine wpAnyU_take (i := 5) (v := ?vu18) rfl (by kernel_rfl) (by kernel_rfl) (by kernel_rfl) (by kernel_rfl) (by kernel_rfl) (fun _ _ _ h => h) (Or.inl ⟨by rfl, ?hu18⟩) (by assumption) ?ru18
      case hu18 => (intro w9 hSw; (try dsimp only at hSw); go_simp; (try with_reducible rfl))
      simp only [Act.put, List.setIfInBounds_toArray, List.set_cons_zero, List.set_cons_succ]
      refine wpAnyU_take (i := 6) (v := ?vu19) rfl (by kernel_rfl) (by kernel_rfl) (by kernel_rfl) (by kernel_rfl) (by kernel_rfl) (fun _ _ _ h => h) (Or.inl ⟨by rfl, ?hu19⟩) (by assumption) ?ru19
      case hu19 => (intro w9 hSw; (try dsimp only at hSw); go_simp; (try with_reducible rfl))
      simp only [Act.put, List.setIfInBounds_toArray, List.set_cons_zero, List.set_cons_succ]
      refine wpAnyU_two (i := 2) (j := 7) (by kernel_rfl) rfl rfl (fun K hK => ?_) (fun K hK => ?_)
      · go_simp
        refine (IH _).mono ?_
        rintro e w1 ⟨rfl, p1⟩
        have p1' : Pur w w1 := ((Pur.refl w).drew).trans p1
        refine hK.out _ _ ?_ (fun hT => ?_)
        clear hK K
        try simp only [Act.put, List.setIfInBounds_toArray, List.set_cons_zero, List.set_cons_succ]
        · exact Nat.zero_le _
        refine wpAnyU_next (i := 7) (by kernel_rfl) rfl (fun K hK => ?_)
        go_simp
        refine hK.out _ _ ?_ (fun hT => ?_)
        clear hK K
        try simp only [Act.put, List.setIfInBounds_toArray, List.set_cons_zero, List.set_cons_succ]
        · exact Nat.zero_le _
        refine wpAnyU_next (i := 8) (by kernel_rfl) rfl (fun K hK => ?_)
        go_simp
        refine hK.out _ _ ?_ (fun hT => ?_)
        clear hK K
        try simp only [Act.put, List.setIfInBounds_toArray, List.set_cons_zero, List.set_cons_succ]
        · exact Nat.zero_le _
        refine wpAnyU_next (i := 9) (by kernel_rfl) rfl (fun K hK => ?_)
        go_simp
        refine hK.out _ _ ?_ (fun hT => ?_)
        clear hK K
        try simp only [Act.put, List.setIfInBounds_toArray, List.set_cons_zero, List.set_cons_succ]
        · exact Nat.zero_le _
        refine wpAnyU_tail 10 (by kernel_rfl) ?_
        simp only [List.drop_succ_cons, List.drop_zero]
        go_wp2
        go_ret
        exact ⟨by rw [HS.out]; rfl, p1'.alloc _⟩
      · go_simp
        have b0 := bk_new w (.cells #[.int .u8 (48 + (r : Int))] 5)
        refine hK.out _ _ ?_ (fun hT => ?_)
        clear hK K
        try simp only [Act.put, List.setIfInBounds_toArray, List.set_cons_zero, List.set_cons_succ]
        · exact Nat.zero_le _
        refine wpAnyU_two (i := 2) (j := 8) (by kernel_rfl) rfl rfl (fun K hK => ?_) (fun K hK => ?_)
        · go_simp
          refine (IH _).mono ?_
          rintro e w1 ⟨rfl, p1⟩
          have p1' : Pur w w1 := (((Pur.refl w).drew).alloc _).trans p1
          have s8 := SC w1 _ (bk_pur b0 (((Pur.refl _).drew).trans p1))
          refine hK.out _ _ ?_ (fun hT => ?_)
          clear hK K
          try simp only [Act.put, List.setIfInBounds_toArray, List.set_cons_zero, List.set_cons_succ]
          · exact Nat.zero_le _
          refine wpAnyU_next (i := 8) (by kernel_rfl) rfl (fun K hK => ?_)
          go_simp
          refine hK.out _ _ ?_ (fun hT => ?_)
          clear hK K
          try simp only [Act.put, List.setIfInBounds_toArray, List.set_cons_zero, List.set_cons_succ]
          · exact Nat.zero_le _
          refine wpAnyU_next (i := 9) (by kernel_rfl) rfl (fun K hK => ?_)
          go_simp
          refine hK.out _ _ ?_ (fun hT => ?_)
          clear hK K
          try simp only [Act.put, List.setIfInBounds_toArray, List.set_cons_zero, List.set_cons_succ]
          · exact Nat.zero_le _
          refine wpAnyU_tail 10 (by kernel_rfl) ?_
          simp only [List.drop_succ_cons, List.drop_zero]
          go_wp2
          go_ret
          exact ⟨by rw [HS.out]; rfl, p1'⟩
        · have s8 := SC _ _ (bk_pur b0 ((Pur.refl _).drew))
          go_simp
          refine hK.out _ _ ?_ (fun hT => ?_)
          clear hK K
          try simp only [Act.put, List.setIfInBounds_toArray, List.set_cons_zero, List.set_cons_succ]
          · exact Nat.zero_le _
          refine wpAnyU_next (i := 2) (by kernel_rfl) rfl (fun K hK => ?_)
          go_simp
          refine (IH _).mono ?_
          rintro e w1 ⟨rfl, p1⟩
          have p1' : Pur w w1 := (((Pur.refl w).drew).alloc _).trans p1
          refine hK.out _ _ ?_ (fun hT => ?_)
          clear hK K
          try simp only [Act.put, List.setIfInBounds_toArray, List.set_cons_zero, List.set_cons_succ]
          · exact Nat.zero_le _
          refine wpAnyU_next (i := 9) (by kernel_rfl) rfl (fun K hK => ?_)
          go_simp
          refine hK.out _ _ ?_ (fun hT => ?_)
          clear hK K
          try simp only [Act.put, List.setIfInBounds_toArray, List.set_cons_zero, List.set_cons_succ]
          · exact Nat.zero_le _
          refine wpAnyU_tail 10 (by kernel_rfl) ?_
          simp only [List.drop_succ_cons, List.drop_zero]
          go_wp2
          go_ret
          exact ⟨by rw [HS.out]; rfl, p1'⟩
set_option maxRecDepth 100000 in
theorem ldig_neg (m : Nat) (w : World) (h0 : 0 < m) (hm : m ≤ 9223372036854775807) :
    Calls Tryz.prog 20 #[.int .i64 (-(m : Int))] w fun e w' => e = .returned (.string ⟨(45 :: Lib.decDigits m).toArray⟩) ∧ Pur w w' := by
  have d0 : decide (-(m : Int) < 0) = true := by rw [decide_eq_true_eq]; omega
  have w1 : IntKind.i64.wrap (m : Int) = (m : Int) := IntWalk.i64_in _ (by omega)
  have w2 : IntKind.i64.wrap (- -(m : Int)) = (m : Int) := by rw [Int.neg_neg]; exact w1
  have hlen := dec_le m (by omega)
  have IH := fun w => ldig_any m w hm
  generalize Lib.decDigits m = D at *
  have z1 : ¬ 9223372036854775807 < 1 + D.length := by omega
  clear hm
  go_enter Tryz.func20, Tryz.ntmps20
  go_wp2_with fail
  refine (IH _).mono ?_
  rintro e w1 ⟨rfl, p1⟩
  go_wp2
  go_ret
  exact ⟨rfl, p1⟩
end Ft
end Go.Proofs.YtciigfaojmpoiaaGreatDoor
