/- Whole numbers from 2^52 up to 2^53 are read as themselves, by scaling. A whole number's digits, below 2^53, are read as that number (layer 10). Layer 10: the law LibInts, walked. Layer 10: the law LibInts, walked. -/
import Derived.Test.YtgdolcoiihagfaaGreatDoorNmZ
import Derived.Test.YtgdolcoiihagfaaGreatDoorUsA
import Derived.Test.YtgdolcoiihagfaaGreatDoorIeX
import Derived.Test.YtgdolcoiihagfaaGreatDoorPnX
import Derived.Test.YtgdolcoiihagfaaGreatDoorFtE
import Derived.Test.YtgdolcoiihagfaaGreatDoorHpA
import Derived.Test.YtgdolcoiihagfaaGreatDoorLiG
import Derived.Test.YtgdolcoiihagfaaGreatDoorLiH
namespace Go.Proofs.YtgdolcoiihagfaaGreatDoor
open Go Go.RowKit
set_option linter.all false
namespace Us
open P10
open Ie (V V_inj)
set_option exponentiation.threshold 20000
theorem h348 : Hi0 348 = 9223372036854775808 ∧ Lo0 348 = 0 := by
  refine ⟨?_, ?_⟩ <;> decide +kernel
theorem bl53 {d : Nat} (h0 : 4503599627370496 ≤ d) (h1 : d < 9007199254740992) : Lib.bitLen d = 53 := by
  obtain ⟨-, h2, h3⟩ := Lib.bitLenAux_bounds 64 d (by omega) (by omega)
  have h2' : 2 ^ (Lib.bitLen d - 1) ≤ d := h2
  have h3' : d < 2 ^ Lib.bitLen d := h3
  rcases Nat.lt_trichotomy (Lib.bitLen d) 53 with h | h | h
  · have : 2 ^ Lib.bitLen d ≤ 2 ^ 52 := Nat.pow_le_pow_right (by decide) (by omega)
    rw [show (2 : Nat) ^ 52 = 4503599627370496 by decide] at this
    omega
  · exact h
  · have : 2 ^ 53 ≤ 2 ^ (Lib.bitLen d - 1) := Nat.pow_le_pow_right (by decide) (by omega)
    rw [show (2 : Nat) ^ 53 = 9007199254740992 by decide] at this
    omega
theorem a52' {f : Nat} (h : f < 4503599627370496) : (4503599627370496 + f) &&& 4503599627370496 ≠ 0 := by
  intro e
  have := congrArg (Nat.testBit · 52) e
  simp only [Nat.testBit_and, Nat.zero_testBit] at this
  rw [show (4503599627370496 : Nat) = 2 ^ 52 by decide, Nat.testBit_two_pow_add_eq, Nat.testBit_two_pow_self, Nat.testBit_lt_two_pow (show f < 2 ^ 52 from h)] at this
  cases this
theorem an52 {f : Nat} (h : f < 4503599627370496) : bits .andNot .u64 ((4503599627370496 + f : Nat) : Int) 4503599627370496 = (f : Int) := by
  have e := u64_andNot_nat (4503599627370496 + f) 4503599627370496 (by omega) (by decide)
  rw [show ((4503599627370496 : Nat) : Int) = 4503599627370496 from rfl] at e
  rw [e]
  congr 1
  apply Nat.eq_of_testBit_eq
  intro j
  have hc : (18446744073709551615 - 4503599627370496 : Nat) = (2 ^ 52 - 1) ||| (2047 <<< 53) := by decide
  rw [hc, Nat.testBit_and, Nat.testBit_or, Nat.testBit_two_pow_sub_one, Nat.testBit_shiftLeft]
  rcases Nat.lt_trichotomy j 52 with g | g | g
  · rw [show (4503599627370496 : Nat) = 2 ^ 52 by decide, Nat.testBit_two_pow_add_gt g]
    simp [g]
  · subst g
    rw [Nat.testBit_lt_two_pow (show f < 2 ^ 52 from h)]
    simp
  · rw [Nat.testBit_lt_two_pow (show f < 2 ^ j from Nat.lt_of_lt_of_le h (Nat.pow_le_pow_right (n := 2) (by decide) (show 52 ≤ j by omega))),
      Nat.testBit_lt_two_pow (show 4503599627370496 + f < 2 ^ j from Nat.lt_of_lt_of_le (show 4503599627370496 + f < 2 ^ 53 by omega) (Nat.pow_le_pow_right (n := 2) (by decide) (show 53 ≤ j by omega)))]
    rfl
theorem pk_big {f : Nat} (hf : f < 4503599627370496) : pk (4503599627370496 + f) 0 = (f + 4841369599423283200, false) := by
  unfold pk
  rw [if_neg (a52' hf), if_neg (by decide), an52 hf]
  have o := u64_or_nat f 4841369599423283200 (by omega) (by decide)
  rw [show (1075 + (0 : Int)) * 4503599627370496 = ((4841369599423283200 : Nat) : Int) by decide, o]
  congr 1
  rw [Int.toNat_natCast, Nat.or_comm]
  have s := Nat.shiftLeft_add_eq_or_of_lt (b := f) (i := 52) hf 1075
  rw [Nat.shiftLeft_eq, show (1075 : Nat) * 2 ^ 52 = 4841369599423283200 by decide] at s
  rw [← s]
  omega
theorem unr_big {d : Nat} (h0 : 4503599627370496 ≤ d) (h1 : d < 9007199254740992) : unr Hi0 Lo0 d 0 = 4 * d := by
  unfold unr scl expo
  rw [bl53 h0 h1, show lg 0 = 0 by decide, show ((0 : Int) + 348).toNat = 348 by decide, h348.1, h348.2]
  rw [show (-(min 1074 (53 - ((53 : Nat) : Int) - 0) - (64 - ((53 : Nat) : Int)) + 0 + 3)).toNat = 8 by decide, show 64 - 53 = 11 by decide]
  unfold usc
  have e1 : d * 2 ^ 11 * 9223372036854775808 / 18446744073709551616 = d * 1024 := by
    rw [show (2 : Nat) ^ 11 = 2048 by decide]
    omega
  have e2 : d * 2 ^ 11 * 9223372036854775808 % 18446744073709551616 = 0 := by
    rw [show (2 : Nat) ^ 11 = 2048 by decide]
    omega
  rw [e1, e2, show (2 : Nat) ^ 8 = 256 by decide, if_neg (by omega), Nat.mul_zero, Nat.zero_div]
  have e3 : b2 (decide (0 < 0)) = 0 := by decide
  have e4 : b2 (decide (1 < (0 + 18446744073709551616 - 0) % 18446744073709551616)) = 0 := by decide
  rw [e3, e4, Nat.or_zero]
  omega
theorem rd_big {d : Nat} (h0 : 4503599627370496 ≤ d) (h1 : d < 9007199254740992) : rd Hi0 Lo0 d 0 = (d - 4503599627370496 + 4841369599423283200, false) := by
  unfold rd
  have e1 : scl d 0 = 8 := by
    unfold scl expo
    rw [bl53 h0 h1, show lg 0 = 0 by decide]
    decide
  have e2 : expo d 0 = 0 := by
    unfold expo
    rw [bl53 h0 h1, show lg 0 = 0 by decide]
    decide
  rw [e1, if_neg (by decide), unr_big h0 h1, e2]
  have e3 : half (4 * d) = 4 * d := by
    unfold half
    rw [if_neg (by omega), show 4 * d % 2 = 0 by omega, Nat.or_zero]
  have e4 : rnd (4 * d) = d := by
    unfold rnd
    rw [show 4 * d / 4 = d by omega]
    have : (4 * d + 1) % 18446744073709551616 = 4 * d + 1 := by omega
    rw [this]
    have h2 : d % 2 < 2 := Nat.mod_lt _ (by decide)
    rw [Nat.mod_eq_of_lt (by omega)]
    omega
  rw [e3, e4, show (decide (36028797018963966 ≤ 4 * d)) = false from decide_eq_false (by omega), show b2 false = 0 from rfl]
  obtain ⟨f, rfl⟩ : ∃ f, d = 4503599627370496 + f := ⟨d - 4503599627370496, by omega⟩
  rw [show -((0 : Int) - ((0 : Nat) : Int)) = 0 by decide, pk_big (by omega), Nat.add_sub_cancel_left]
theorem foi_big {d : Nat} (h0 : 4503599627370496 ≤ d) (h1 : d < 9007199254740992) : floatOfInt .f64 (d : Int) = d - 4503599627370496 + 4841369599423283200 := by
  obtain ⟨c, hc, hv, hf⟩ := Mt.int_word (d : Int) (by omega)
  rw [show ((d : Int)).natAbs = d from rfl] at hv
  have e : V (d - 4503599627370496 + 4841369599423283200) = d * 2 ^ 1074 := by
    unfold V
    rw [if_neg (by omega), show (d - 4503599627370496 + 4841369599423283200) / 4503599627370496 - 1 = 1074 by omega, show 4503599627370496 + (d - 4503599627370496 + 4841369599423283200) % 4503599627370496 = d by omega]
  have hc2 := V_inj (hv.trans e.symm)
  rw [hf, hc2, show (decide ((d : Int) < 0)) = false from decide_eq_false (by omega)]
  rfl
set_option maxRecDepth 100000 in
theorem exact_no (m : Nat) (h0 : 4503599627370496 ≤ m) (h1 : m < 9007199254740992) (w : World) (hF : Rf.F64 w) :
    Calls Tryz.prog 232 #[.int .u64 (m : Int), .int .i64 0, .bool false] w fun e' w' => e' = .returned (.tuple #[.float .f64 0, .bool false]) ∧ w = w' := by
  have d1 : ((m : Int) / 4503599627370496 != 0) = true := by rw [bne_iff_ne]; omega
  have c0 := hF.c0
  clear hF h0 h1
  go_enter Tryz.func232, Tryz.ntmps232
  go_wp2
  go_ret2
  exact ⟨rfl, rfl⟩
set_option maxRecDepth 100000 in
set_option maxHeartbeats 4000000 in
theorem atof_bigint {l : List UInt8} {m : Nat} (h0 : 4503599627370496 ≤ m) (h1 : m < 9007199254740992) (hR : RD l m 0 false) (hl : 0 < l.length)
    (hd : ∀ c, c = 43 ∨ c = 45 ∨ c = 105 ∨ c = 73 ∨ c = 110 ∨ c = 78 → by8 l 0 ≠ c) : AD Hi0 Lo0 T0 l (floatOfInt .f64 (m : Int)) false := by
  have SP := fun w => Rf.special_no l w hl (hd 43 (by simp)) (hd 45 (by simp)) (hd 105 (by simp)) (hd 73 (by simp)) (hd 110 (by simp)) (hd 78 (by simp))
  have BF : ∀ w, Calls Tryz.prog 230 #[.bool false] w fun e w' => e = .returned (.int .u64 0) ∧ w = w' := fun w => bool2_any false w
  have b0 : bits .or .u64 0 0 = 0 := by decide
  have d1 : ((m : Int) == 0) = false := by rw [beq_eq_false_iff_ne]; omega
  unfold RD at hR
  intro w hW
  have co := hW.op
  have E1 := exact_no m h0 h1 w hW.f
  have P1 := parse_any m 0 hW.pt hW.lt (by omega) (by omega) (by decide) (by decide)
  rw [rd_big h0 h1, ← foi_big h0 h1] at P1
  generalize floatOfInt .f64 (m : Int) = q at *
  clear hW hd h0 h1
  go_enter Tryz.func195, Tryz.ntmps195
  go_wp2_with fail
  refine (SP _).mono ?_
  rintro e w1 ⟨rfl, rfl⟩
  go_wp2_with fail
  refine (hR _).mono ?_
  rintro e w1 ⟨rfl, rfl⟩
  go_wp2_with fail
  refine (BF _).mono ?_
  rintro e w1 ⟨rfl, rfl⟩
  go_wp2_with fail
  refine E1.mono ?_
  rintro e w1 ⟨rfl, rfl⟩
  go_wp2_with fail
  refine P1.mono ?_
  rintro e w1 ⟨rfl, p1⟩
  go_wp2
  go_ret3
  exact ⟨rfl, p1⟩
/-- EVERY WHOLE NUMBER BELOW 2^53, from its digits -/
theorem dec_whole {s : List UInt8} {m : Nat} (h : Nm.decimal s = true) (hl : s.length ≤ 100000) (hm : m < 9007199254740992) (e1 : (Rf.digs s false 0).mant = m) (e2 : Rf.pow s false 0 = 0) (e3 : (Rf.digs s false 0).trunc = false)
    (h0 : 0 < s.length) (hd : ∀ c, c = 43 ∨ c = 45 ∨ c = 105 ∨ c = 73 ∨ c = 110 ∨ c = 78 → by8 s 0 ≠ c) : AD Hi0 Lo0 T0 s (floatOfInt .f64 (m : Int)) false := by
  by_cases g : m < 4503599627370496
  · exact dec_int h hl g e1 e2 e3
  · have R := dec_rd h hl
    rw [e1, e2, e3] at R
    exact atof_bigint (by omega) hm R h0 hd
end Us
end Go.Proofs.YtgdolcoiihagfaaGreatDoor
namespace Go.Proofs.YtgdolcoiihagfaaGreatDoor
open Go Go.RowKit
set_option linter.all false
open Lx (w16)
namespace Mt
set_option exponentiation.threshold 3000
theorem neg_int (n : Nat) (h0 : 0 < n) (h : n < 9007199254740992) : Us.sg true (floatOfInt .f64 (n : Int)) = floatOfInt .f64 (-(n : Int)) := by
  obtain ⟨c, hc, hv, e⟩ := int_word (n : Int) (by omega)
  obtain ⟨d, hd, hv2, e2⟩ := int_word (-(n : Int)) (by omega)
  have : c = d := Ie.V_inj (by rw [hv, hv2]; congr 1; omega)
  subst this
  rw [show decide ((n : Int) < 0) = false by rw [decide_eq_false_iff_not]; omega] at e
  rw [show decide (-(n : Int) < 0) = true by rw [decide_eq_true_eq]; omega] at e2
  rw [e, e2]
  have hs : ∀ x, Us.sg true x = Op.negFloat .f64 x := fun x => rfl
  rw [hs, Ie.neg_word false (by omega)]
  rfl
end Mt
namespace Ft
open Rf
/-- what digits are worth -/
def dval : List UInt8 → Nat → Nat
  | [], m => m
  | c :: R, m => dval R (m * 10 + (c.toNat - 48))
theorem dval_app : ∀ (A B : List UInt8) (m : Nat), dval (A ++ B) m = dval B (dval A m)
  | [], _, _ => rfl
  | _ :: A, B, m => dval_app A B _
theorem dval_dec (n : Nat) : dval (Lib.decDigits n) 0 = n := by
  induction n using Nat.strongRecOn with
  | _ n ih =>
    by_cases g : n < 10
    · rw [Lib.decDigits, dif_pos g]
      show 0 * 10 + ((UInt8.ofNat (48 + n)).toNat - 48) = n
      rw [byte48 g]; omega
    · rw [Lib.decDigits, dif_neg g, dval_app, ih (n / 10) (by omega)]
      show n / 10 * 10 + ((UInt8.ofNat (48 + n % 10)).toNat - 48) = n
      rw [byte48 (by omega)]; omega
theorem by8_at {l : List UInt8} {i : Nat} {c : UInt8} {R : List UInt8} (h : l.drop i = c :: R) : i < l.length ∧ by8 l i = c.toNat ∧ l.drop (i + 1) = R := by
  have hi : i < l.length := by
    rcases Nat.lt_or_ge i l.length with g | g
    · exact g
    · rw [List.drop_of_length_le g] at h; cases h
  rw [List.drop_eq_getElem_cons hi] at h
  injection h with h1 h2
  refine ⟨hi, ?_, h2⟩
  unfold by8
  rw [List.getD_eq_getElem?_getD, List.getElem?_eq_getElem hi, ← h1]; rfl
/-- digits alone, up to the end -/
theorem go_digs (l : List UInt8) : ∀ (D : List UInt8) (f i m nd nm : Nat) (dp : Int) (dg : Bool), l.drop i = D → (∀ c ∈ D, 48 ≤ c.toNat ∧ c.toNat ≤ 57) → (nd = 0 → ∀ c R, D = c :: R → c ≠ 48) → nm + D.length ≤ 19 → D.length < f →
    go l false f ⟨i, m, nd, nm, dp, false, dg, false⟩ = ⟨i + D.length, dval D m, nd + D.length, nm + D.length, dp, false, dg || !D.isEmpty, false⟩
  | [], 0, i, m, nd, nm, dp, dg, h, hd, hz, hn, hf => by cases hf
  | [], f + 1, i, m, nd, nm, dp, dg, h, hd, hz, hn, hf => by
    rw [go]
    have : l.length ≤ i := by
      rcases Nat.lt_or_ge i l.length with g | g
      · rw [List.drop_eq_getElem_cons g] at h; cases h
      · exact g
    rw [if_neg (by show ¬ i < l.length; omega)]
    simp [dval]
  | c :: R, 0, i, m, nd, nm, dp, dg, h, hd, hz, hn, hf => by cases hf
  | c :: R, f + 1, i, m, nd, nm, dp, dg, h, hd, hz, hn, hf => by
    obtain ⟨h1, h2, h3⟩ := by8_at h
    have hc := hd c (List.mem_cons_self ..)
    rw [List.length_cons] at hn hf
    rw [go]
    rw [if_pos (by show i < l.length; exact h1)]
    show (match Rf.step false (by8 l i) ⟨i, m, nd, nm, dp, false, dg, false⟩ with | some t => go l false f t | none => _) = _
    rw [h2, step_dig (by simp only [digC, Bool.and_eq_true, decide_eq_true_eq]; omega) (by
      rintro ⟨e1, e2⟩
      exact hz e2 c R rfl (UInt8.toNat_inj.1 (by rw [e1]; rfl))) (by show nm < 19; omega)]
    show go l false f ⟨i + 1, m * 10 + (c.toNat - 48), nd + 1, nm + 1, dp, false, true, false⟩ = _
    rw [go_digs l R f (i + 1) _ (nd + 1) (nm + 1) dp true h3 (fun x hx => hd x (List.mem_cons_of_mem _ hx)) (fun e => by omega) (by omega) (by omega)]
    simp only [dval, List.length_cons, List.isEmpty_cons, Bool.not_false, Bool.or_true, Bool.true_or]
    congr 1 <;> omega
theorem digs_dec (pre : List UInt8) {n : Nat} (h : 0 < n) (hl : (Lib.decDigits n).length ≤ 19) :
    digs (pre ++ Lib.decDigits n) false pre.length = ⟨pre.length + (Lib.decDigits n).length, n, (Lib.decDigits n).length, (Lib.decDigits n).length, 0, false, true, false⟩ := by
  obtain ⟨c, t, hc, h48⟩ := dec_head h
  have := go_digs (pre ++ Lib.decDigits n) (Lib.decDigits n) ((pre ++ Lib.decDigits n).length + 1) pre.length 0 0 0 0 false (List.drop_left) (dec_digit n) (fun _ c' R' e => by
    rw [hc] at e
    injection e with e1 e2
    rw [← e1]; exact h48) (by omega) (by rw [List.length_append]; omega)
  rw [dval_dec, Nat.zero_add] at this
  unfold digs Rf.start
  rw [this, hc]
  rfl
theorem run_digs : ∀ D : List UInt8, (∀ c ∈ D, 48 ≤ c.toNat ∧ c.toNat ≤ 57) → Nm.runGo Nm.digits D = D.length
  | [], _ => rfl
  | c :: R, h => by
    have hall : ∀ c : UInt8, (48 ≤ c.toNat ∧ c.toNat ≤ 57) → Nm.digits.contains c = true := fun c hc => by
      have : ∀ k : Nat, k < 256 → 48 ≤ k ∧ k ≤ 57 → Nm.digits.contains (UInt8.ofNat k) = true := by decide +kernel
      have h2 := this c.toNat (UInt8.toNat_lt c) hc
      rwa [UInt8.ofNat_toNat] at h2
    rw [Nm.runGo, if_pos (hall c (h c (List.mem_cons_self ..))), run_digs R (fun x hx => h x (List.mem_cons_of_mem _ hx))]
    rfl
theorem dec_ne (n : Nat) : 0 < (Lib.decDigits n).length := by
  rw [Lib.decDigits]
  split
  · simp
  · rw [List.length_append]; simp
theorem dec_decimal (n : Nat) : Nm.decimal (Lib.decDigits n) = true := by
  have h := run_digs _ (dec_digit n)
  have h0 := dec_ne n
  unfold Nm.decimal Nm.mantEnd
  rw [h, List.drop_of_length_le (Nat.le_refl _)]
  show (if (Lib.decDigits n).length = 0 then false else Nm.expEnd []) = true
  rw [if_neg (by omega)]
  rfl
theorem ad_dec53 (n : Nat) (h : n < 9007199254740992) : Us.AD P10.Hi0 P10.Lo0 P10.T0 (Lib.decDigits n) (floatOfInt .f64 (n : Int)) false := by
  have hl := dec_len n (by omega)
  have h0 := dec_ne n
  have hd0 := dec_digit n
  have hb : ∀ c, c = 43 ∨ c = 45 ∨ c = 105 ∨ c = 73 ∨ c = 110 ∨ c = 78 → by8 (Lib.decDigits n) 0 ≠ c := by
    intro c hc
    have hm : 48 ≤ by8 (Lib.decDigits n) 0 ∧ by8 (Lib.decDigits n) 0 ≤ 57 := by
      cases e : Lib.decDigits n with
      | nil => rw [e] at h0; simp at h0
      | cons a r => rw [e] at hd0; exact hd0 a (List.mem_cons_self ..)
    omega
  rcases Nat.eq_zero_or_pos n with g | g
  · subst g
    exact Us.dec_int (m := 0) (dec_decimal 0) (by omega) (by decide) (by decide +kernel) (by decide +kernel) (by decide +kernel)
  · have hd := digs_dec [] g hl
    rw [List.nil_append, List.length_nil] at hd
    refine Us.dec_whole (m := n) (dec_decimal n) (by omega) h (by rw [hd]) ?_ (by rw [hd]) h0 hb
    unfold Rf.pow
    rw [hd]
    simp only [dpOf, exPart]
    rw [if_neg (by omega : ¬ n = 0), if_neg (by omega : ¬ (0 + (Lib.decDigits n).length < (Lib.decDigits n).length))]
    simp
end Ft
end Go.Proofs.YtgdolcoiihagfaaGreatDoor
namespace Go.Proofs.YtgdolcoiihagfaaGreatDoor
open Go Go.RowKit
set_option linter.all false
namespace Li
theorem by8_left (a b : List UInt8) (i : Nat) (h : i < a.length) : by8 (a ++ b) i = by8 a i := by
  unfold by8
  rw [List.getD_eq_getElem?_getD, List.getD_eq_getElem?_getD, List.getElem?_append_left h]
theorem by8_right (a b : List UInt8) (i : Nat) : by8 (a ++ b) (a.length + i) = by8 b i := by
  unfold by8
  rw [List.getD_eq_getElem?_getD, List.getD_eq_getElem?_getD, List.getElem?_append_right (by omega), Nat.add_sub_cancel_left]
theorem units_app (a b : List UInt8) (ha : a.length % 2 = 0) : unitsOf (a ++ b) = unitsOf a ++ unitsOf b := by
  apply List.ext_getElem?
  intro i
  have hl : (a ++ b).length / 2 = a.length / 2 + b.length / 2 := by rw [List.length_append]; omega
  by_cases h1 : i < a.length / 2
  · rw [List.getElem?_append_left (by rw [unitsOf_len]; exact h1), unitsOf_at _ _ h1, unitsOf_at _ _ (by omega)]
    unfold at16
    rw [by8_left _ _ _ (by omega), by8_left _ _ _ (by omega)]
  · rw [List.getElem?_append_right (by rw [unitsOf_len]; omega), unitsOf_len]
    by_cases h2 : i < a.length / 2 + b.length / 2
    · rw [unitsOf_at _ _ (by omega), unitsOf_at _ _ (by omega)]
      unfold at16
      rw [show 2 * i = a.length + 2 * (i - a.length / 2) by omega, show a.length + 2 * (i - a.length / 2) + 1 = a.length + (2 * (i - a.length / 2) + 1) by omega, by8_right, by8_right]
    · rw [List.getElem?_eq_none (by rw [unitsOf_len]; omega), List.getElem?_eq_none (by rw [unitsOf_len]; omega)]
theorem pre_acc : ∀ (us : List Nat) (acc : List UInt8), acc ≠ [] → pre acc us = acc ++ us.map minU
  | [], acc, _ => by simp [pre]
  | u :: us, acc, h => by
    have e : acc.isEmpty = false := by cases acc with
      | nil => exact absurd rfl h
      | cons a r => rfl
    rw [pre, e, Bool.false_and, if_neg (by decide), pre_acc us (acc ++ [minU u]) (by simp)]
    simp
theorem minU_byte (c : UInt8) : minU c.toNat = c := by
  unfold minU
  have := UInt8.toNat_lt c
  rw [Nat.min_eq_left (by omega)]
  exact UInt8.ofNat_toNat
theorem map_minU (S : List UInt8) : (S.map (·.toNat)).map minU = S := by
  rw [List.map_map]
  conv => rhs; rw [← List.map_id S]
  exact List.map_congr_left fun b _ => minU_byte b
theorem pre_text (c : UInt8) (S tail : List UInt8) (hc : blankU c.toNat = false) : pre [] (unitsOf (wide8 ([32, 9] ++ (c :: S)) ++ tail)) = (c :: S) ++ (unitsOf tail).map minU := by
  rw [units_app _ _ (by rw [wide8_len]; omega), units_wide8]
  show pre [] (32 :: 9 :: c.toNat :: (S.map (·.toNat) ++ unitsOf tail)) = _
  rw [pre, show (([] : List UInt8).isEmpty && blankU 32) = true by decide, if_pos rfl, pre, show (([] : List UInt8).isEmpty && blankU 9) = true by decide, if_pos rfl, pre, show (([] : List UInt8).isEmpty && blankU c.toNat) = false by rw [hc]; rfl, if_neg (by decide), pre_acc _ _ (by simp)]
  rw [List.map_append, map_minU, minU_byte]
  simp
theorem inDig (c : UInt8) : inSet digSet c = (decide (48 ≤ c.toNat) && decide (c.toNat ≤ 57)) := by
  have H : ∀ k : Fin 256, inSet digSet (UInt8.ofNat k.val) = (decide (48 ≤ (UInt8.ofNat k.val).toNat) && decide ((UInt8.ofNat k.val).toNat ≤ 57)) := by decide +kernel
  have := H ⟨c.toNat, UInt8.toNat_lt c⟩
  simp only [UInt8.ofNat_toNat] at this
  exact this
theorem or32_is (c : UInt8) (h : c.toNat ||| 32 = 120) : c.toNat = 120 ∨ c.toNat = 88 := by
  have H : ∀ k : Fin 256, k.val ||| 32 = 120 → k.val = 120 ∨ k.val = 88 := by decide +kernel
  exact H ⟨c.toNat, UInt8.toNat_lt c⟩ h
theorem minU_nat (u : Nat) : (minU u).toNat = min u 255 := by
  unfold minU
  rw [UInt8.toNat_ofNat', Nat.mod_eq_of_lt (by omega)]
/-- what stands behind a number's digits -/
def Behind (m : Nat) (tail : List UInt8) : Prop := ∀ u, (unitsOf tail)[0]? = some u → ¬ (48 ≤ u ∧ u ≤ 57) ∧ (m = 0 → u ≠ 120 ∧ u ≠ 88)
theorem getD_left (a b : List UInt8) (i : Nat) (h : i < a.length) : (a ++ b).getD i 0 = a.getD i 0 := by
  rw [List.getD_eq_getElem?_getD, List.getD_eq_getElem?_getD, List.getElem?_append_left h]
theorem run_dig (m : Nat) (tail : List UInt8) (h : Behind m tail) : runS digSet (Lib.decDigits m ++ (unitsOf tail).map minU) (Lib.decDigits m).length := by
  have hd := Ft.dec_digit m
  refine ⟨by rw [List.length_append]; omega, fun j hj => ?_, fun hk => ?_⟩
  · rw [getD_left _ _ _ hj, inDig, List.getD_eq_getElem?_getD, List.getElem?_eq_getElem hj]
    have := hd _ (List.getElem_mem hj)
    simp [this.1, this.2]
  · rw [List.length_append, List.length_map] at hk
    obtain ⟨u, hu⟩ : ∃ u, (unitsOf tail)[0]? = some u := ⟨_, List.getElem?_eq_getElem (by omega)⟩
    have hb := (h u hu).1
    have e : (Lib.decDigits m ++ (unitsOf tail).map minU).getD (Lib.decDigits m).length 0 = minU u := by
      rw [List.getD_eq_getElem?_getD, List.getElem?_append_right (Nat.le_refl _), Nat.sub_self, List.getElem?_map, hu]
      rfl
    rw [e, inDig, minU_nat]
    have : ¬ (48 ≤ min u 255 ∧ min u 255 ≤ 57) := by omega
    by_cases g : 48 ≤ min u 255
    · rw [decide_eq_false (show ¬ min u 255 ≤ 57 from fun g2 => this ⟨g, g2⟩), Bool.and_false]
    · rw [decide_eq_false g, Bool.false_and]
theorem hexB_no (m : Nat) (tail : List UInt8) (h : Behind m tail) : hexB (Lib.decDigits m ++ (unitsOf tail).map minU) = false := by
  rcases Nat.eq_zero_or_pos m with g | g
  · subst g
    have e : Lib.decDigits 0 = [48] := by decide +kernel
    rw [e]
    unfold hexB
    cases hu : unitsOf tail with
    | nil => rfl
    | cons u r =>
      have hb := (h u (by rw [hu]; rfl)).2 rfl
      have e2 : by8 ([48] ++ (u :: r).map minU) 1 = (minU u).toNat := rfl
      rw [e2]
      have : ¬ ((minU u).toNat ||| 32 = 120) := fun e3 => by
        have := or32_is _ e3
        rw [minU_nat] at this
        omega
      rw [decide_eq_false this, Bool.and_false, Bool.and_false]
  · obtain ⟨c, t, hc, h48⟩ := Ft.dec_head g
    unfold hexB
    rw [hc]
    have e : by8 ((c :: t) ++ (unitsOf tail).map minU) 0 = c.toNat := rfl
    rw [e]
    have : ¬ (c.toNat = 48) := fun e => h48 (UInt8.toNat_inj.1 e)
    rw [decide_eq_false this, Bool.false_and, Bool.and_false]
theorem dig_not_blank (c : UInt8) (h : 48 ≤ c.toNat ∧ c.toNat ≤ 57) : blankU c.toNat = false := by
  unfold blankU
  simp
  omega
/-- the digits of a number, as a text -/
def zD (z : Int) : List UInt8 := if z < 0 then 45 :: Lib.decDigits z.natAbs else Lib.decDigits z.natAbs
theorem zD_len (z : Int) (hz : z.natAbs < 9007199254740992) : (zD z).length ≤ 20 ∧ 0 < (zD z).length := by
  have h1 := dec_len z.natAbs (by omega)
  have h2 := Ft.dec_ne z.natAbs
  unfold zD
  split
  · simp; omega
  · omega
theorem negF_neg (x : Nat) : negF [45] x = Us.sg true x := rfl
/-- the same, out of what the digits' float is -/
theorem parse_digs (m : Nat) (tail : List UInt8) (x : Nat) (ng : Bool) (hm : m < 9007199254740992) (ht : tail.length ≤ 400) (hb : Behind m tail) {w : World}
    (PF : ∀ w', Pur w w' → Calls Tryz.prog 114 #[.string ⟨(Lib.decDigits m).toArray⟩, .int .i64 64] w' fun e w'' => e = .returned (.tuple #[.float .f64 x, .nilIface]) ∧ Pur w' w'') :
    Calls Tryz.prog 83 #[.string ⟨(wide8 ([32, 9] ++ (if ng then 45 :: Lib.decDigits m else Lib.decDigits m)) ++ tail).toArray⟩, .float .f64 0] w fun e w' => e = .returned (.float .f64 (Us.sg ng x)) ∧ Pur w w' := by
  have hd := Ft.dec_digit m
  have h0 := Ft.dec_ne m
  have h19 := dec_len m (by omega)
  have hr := run_dig m tail hb
  have hh := hexB_no m tail hb
  clear hb hm
  generalize Lib.decDigits m = D at *
  obtain ⟨c, t, hc⟩ : ∃ c t, D = c :: t := by
    cases D with
    | nil => simp at h0
    | cons a r => exact ⟨a, r, rfl⟩
  have hc48 : 48 ≤ c.toNat ∧ c.toNat ≤ 57 := hd c (by rw [hc]; exact List.mem_cons_self ..)
  have hsub : sub (D ++ (unitsOf tail).map minU) 0 D.length = D := by
    unfold sub
    rw [List.drop_zero, Nat.sub_zero, List.take_left]
  have PF2 : ∀ w', Pur w w' → Calls Tryz.prog 114 #[.string ⟨(if false = true then [48, 120] ++ (sub (D ++ (unitsOf tail).map minU) 0 D.length ++ [112, 48]) else sub (D ++ (unitsOf tail).map minU) 0 D.length).toArray⟩, .int .i64 64] w' fun e w'' => e = .returned (.tuple #[.float .f64 x, .nilIface]) ∧ Pur w' w'' := fun w' hp => by
    rw [if_neg (by decide), hsub]
    exact PF w' hp
  cases ng with
  | true =>
    rw [if_pos rfl]
    have hlen : (wide8 ([32, 9] ++ (45 :: D)) ++ tail).length ≤ 10000 := by
      rw [List.length_append, wide8_len, List.length_append]
      simp
      omega
    have P := parse_any (w := w) _ _ (D ++ (unitsOf tail).map minU) (D ++ (unitsOf tail).map minU) false D.length x hlen (pre_text 45 D tail (by decide)) (by
      rw [show signOf (45 :: D ++ (unitsOf tail).map minU) = [45] from rfl]
      rfl) hh rfl hr h0 .nilIface PF2
    rw [show signOf (45 :: D ++ (unitsOf tail).map minU) = [45] from rfl, negF_neg] at P
    exact P
  | false =>
    rw [if_neg (by decide)]
    have hlen : (wide8 ([32, 9] ++ D) ++ tail).length ≤ 10000 := by
      rw [List.length_append, wide8_len, List.length_append]
      simp
      omega
    have hpt := pre_text c t tail (dig_not_blank c hc48)
    rw [← hc] at hpt
    have hsg : signOf (D ++ (unitsOf tail).map minU) = [] := by
      rw [hc]
      unfold signOf
      rw [if_neg]
      intro h
      simp only [List.cons_append, List.head?_cons, Option.some.injEq] at h
      rcases h with h | h <;> · rw [h] at hc48; revert hc48; decide
    have P := parse_any (w := w) _ _ (D ++ (unitsOf tail).map minU) (D ++ (unitsOf tail).map minU) false D.length x hlen hpt (by rw [hsg]; rfl) hh rfl hr h0 .nilIface PF2
    rw [hsg] at P
    exact P
theorem sg_false (x : Nat) : Us.sg false x = x := rfl
theorem sg_int (z : Int) (hz : z.natAbs < 9007199254740992) : Us.sg (decide (z < 0)) (floatOfInt .f64 (z.natAbs : Int)) = floatOfInt .f64 z := by
  by_cases hn : z < 0
  · rw [decide_eq_true hn, Mt.neg_int z.natAbs (by omega) hz, show -((z.natAbs : Nat) : Int) = z by omega]
  · rw [decide_eq_false hn, show ((z.natAbs : Nat) : Int) = z by omega]
    exact sg_false _
/-- parseInt of a number's digits, whatever stands behind them -/
theorem parse_int (z : Int) (tail : List UInt8) (hz : z.natAbs < 9007199254740992) (ht : tail.length ≤ 400) (hb : Behind z.natAbs tail) {w : World} (hW : Cv.CW w) :
    Calls Tryz.prog 83 #[.string ⟨(wide8 ([32, 9] ++ zD z) ++ tail).toArray⟩, .float .f64 0] w fun e w' => e = .returned (.float .f64 (floatOfInt .f64 z)) ∧ Pur w w' := by
  have P := parse_digs z.natAbs tail (floatOfInt .f64 (z.natAbs : Int)) (decide (z < 0)) hz ht hb (w := w) fun w' hp => Us.parse_ok (Ft.ad_dec53 z.natAbs hz) (by have := dec_len z.natAbs (by omega); omega) (hW.pur hp).k.n.fw
  have e0 := sg_int z hz
  obtain ⟨y, hy⟩ : ∃ y, floatOfInt .f64 z = y := ⟨_, rfl⟩
  rw [hy] at e0 ⊢
  rw [e0] at P
  have e : (if decide (z < 0) = true then 45 :: Lib.decDigits z.natAbs else Lib.decDigits z.natAbs) = zD z := by
    unfold zD
    by_cases hn : z < 0
    · rw [decide_eq_true hn, if_pos rfl, if_pos hn]
    · rw [decide_eq_false hn, if_neg (by decide), if_neg hn]
  rw [e] at P
  exact P
end Li
end Go.Proofs.YtgdolcoiihagfaaGreatDoor
namespace Go.Proofs.YtgdolcoiihagfaaGreatDoor
open Go Go.RowKit
set_option linter.all false
open Lx (w16)
namespace Li
def uAt (tail : List UInt8) : Int := if 0 < tail.length / 2 then (at16 tail 0 : Int) else -1
theorem rat_zero (tail : List UInt8) (hl : tail.length ≤ 1000000000) (w : World) : Calls Tryz.prog 19 #[.string ⟨tail.toArray⟩, .int .i64 0] w fun e w' => e = .returned (.int .i64 (uAt tail)) ∧ Pur w w' := by
  unfold uAt
  by_cases h : 0 < tail.length / 2
  · rw [if_pos h]
    exact rat_in tail 0 w (by omega) h
  · rw [if_neg h]
    exact rat_out tail 0 w (by omega) (.inr (by omega))
theorem behind_of (m : Nat) (tail : List UInt8) (h1 : ¬ (48 ≤ uAt tail ∧ uAt tail ≤ 57)) (h2 : m = 0 → uAt tail ≠ 120 ∧ uAt tail ≠ 88) : Behind m tail := by
  intro u hu
  have hl : 0 < tail.length / 2 := by
    have := (List.getElem?_eq_some_iff.1 hu).1
    rwa [unitsOf_len] at this
  rw [unitsOf_at _ _ hl] at hu
  cases hu
  unfold uAt at h1 h2
  rw [if_pos hl] at h1 h2
  refine ⟨fun h => h1 (by omega), fun h => ?_⟩
  have := h2 h
  omega
theorem rdig_any (z : Int) (hz : z.natAbs < 9007199254740992) (w : World) : Calls Tryz.prog 18 #[.int .i64 z] w fun e w' => e = .returned (.string ⟨(zD z).toArray⟩) ∧ Pur w w' := by
  unfold zD
  by_cases hn : z < 0
  · rw [if_pos hn]
    have := rdigits_neg z.natAbs w (by omega) (by omega)
    rw [show -((z.natAbs : Nat) : Int) = z by omega] at this
    exact this
  · rw [if_neg hn]
    have := rdigits_pos z.natAbs w (by omega)
    rw [show ((z.natAbs : Nat) : Int) = z by omega] at this
    exact this
set_option maxRecDepth 100000 in
set_option maxHeartbeats 64000000 in
theorem ints_law (n : Int) (tail : List UInt8) (hn : -9223372036854775808 ≤ n) (hn2 : n ≤ 9223372036854775807) (ht1 : tail.length ≤ 1000000000) (w : World) (hW : LB w) :
    Calls Tryz.prog 5 #[.int .i64 n, .string ⟨tail.toArray⟩] w fun e w' => e = .returned (.bool true) ∧ Pur w w' := by
  have AW := awake_any hW
  have NW := fun w => new_st 10 w
  obtain ⟨z, hz⟩ : ∃ z, n.tmod 9007199254740992 = z := ⟨_, rfl⟩
  have hzl : z.natAbs < 9007199254740992 := by
    have h1 := Int.tmod_lt_of_pos n (show (0 : Int) < 9007199254740992 by decide)
    have h2 : -9007199254740992 < n.tmod 9007199254740992 := Int.lt_tmod_of_pos n (by decide)
    rw [hz] at h1 h2
    omega
  have DG := rdig_any z hzl
  have RA := rat_zero tail ht1
  have hzd := zD_len z hzl
  have OF := fun w => Ft.of_any ([32, 9] ++ zD z) w (by simp; omega)
  rw [show w16 ([32, 9] ++ zD z) = wide8 ([32, 9] ++ zD z) from rfl] at OF
  have BH := fun h1 h2 => behind_of z.natAbs tail h1 h2
  have PI := fun (ht : tail.length ≤ 400) (hb : Behind z.natAbs tail) (w : World) (hW : Cv.CW w) => parse_int z tail hzl ht hb hW
  have SS := fun (w : World) => nsame_self (floatOfInt .f64 z) w
  obtain ⟨x, hx⟩ : ∃ x, floatOfInt .f64 z = x := ⟨_, rfl⟩
  have CVF : ∀ w, (convert 2 23 (.int .i64 z)).run Tryz.prog w = .ok (.float .f64 x) w := fun w => by
    rw [← hx]
    rfl
  rw [hx] at PI SS
  have tl : Int.tmod (tail.length : Int) 2 = ((tail.length % 2 : Nat) : Int) := by rw [Int.tmod_eq_emod_of_nonneg (by omega)]; omega
  have hb : tail.length % 2 < 2 := Nat.mod_lt _ (by decide)
  obtain ⟨ml, hml⟩ : ∃ m, tail.length % 2 = m := ⟨_, rfl⟩
  rw [hml] at tl hb
  obtain ⟨u, hu⟩ : ∃ u, uAt tail = u := ⟨_, rfl⟩
  rw [hu] at RA BH
  obtain ⟨D, hD⟩ : ∃ D, zD z = D := ⟨_, rfl⟩
  rw [hD] at DG OF PI hzd
  have hzi : z.natAbs = 0 ↔ z = 0 := by omega
  clear hD hu hx hml
  go_enter Tryz.func5, Tryz.ntmps5
  go_wp2_with fail
  refine AW.mono ?_
  rintro e w1 ⟨rfl, h1⟩
  clear AW
  go_wp2_with fail
  refine (DG _).mono ?_
  rintro e w2 ⟨rfl, h2⟩
  have H2 := h1.trans h2
  clear DG h1 h2
  go_upto_region 5 with (fail)
  go_cut [24] from 16 to 24 (fun v wx => ∃ q, v = .bool q ∧ wx = w2 ∧ (q = false → ml = 0 ∧ tail.length ≤ 400))
  case first =>
    clear NW RA OF BH PI SS CVF hz hzl hW hzi
    by_cases c1 : ml = 0
    · subst c1
      obtain ⟨q, hq⟩ : ∃ q, decide ((400 : Int) < (tail.length : Int)) = q := ⟨_, rfl⟩
      have hq2 : q = false → tail.length ≤ 400 := fun h => by rw [h] at hq; have := of_decide_eq_false hq; omega
      go_wp2
      go_meet
      exact ⟨q, by first | rfl | simp, by first | rfl | trivial, fun h => ⟨by first | rfl | trivial, hq2 h⟩⟩
    · have c1' : ¬ ((ml : Int) = 0) := by omega
      have c1'' : ((ml : Int) == 0) = false := beq_eq_false_iff_ne.2 c1'
      go_wp2
      go_meet
      exact ⟨true, by first | rfl | simp, by first | rfl | trivial, fun h => by cases h⟩
  case rest =>
    obtain ⟨q, rfl, rfl, hq⟩ := hcut
    cases q with
    | true =>
      clear hq NW RA OF BH PI SS CVF
      go_wp2
      go_ret
      exact ⟨rfl, H2⟩
    | false =>
      obtain ⟨rfl, ht4⟩ := hq rfl
      clear hq
      go_wp2_with fail
      refine (RA _).mono ?_
      rintro e w3 ⟨rfl, h3⟩
      have H3 := H2.trans h3
      clear RA h3 H2
      go_upto_region 8 with (fail)
      go_cut [44] from 27 to 44 (fun v wx => ∃ q, v = .bool q ∧ wx = w3 ∧ (q = false → ¬ (48 ≤ u ∧ u ≤ 57) ∧ (z = 0 → u ≠ 120 ∧ u ≠ 88)))
      case first =>
        clear NW OF BH PI SS CVF hz hzl hW hzi H3 tl hb
        by_cases c1 : 48 ≤ u ∧ u ≤ 57
        · have d1 : decide (48 ≤ u) = true := decide_eq_true c1.1
          have d2 : decide (u ≤ 57) = true := decide_eq_true c1.2
          go_wp2
          go_meet
          exact ⟨true, by first | rfl | simp, by first | rfl | trivial, fun h => by cases h⟩
        · have c1a : (decide (48 ≤ u) = false) ∨ (decide (48 ≤ u) = true ∧ decide (u ≤ 57) = false) := by
            by_cases g : 48 ≤ u
            · exact .inr ⟨decide_eq_true g, decide_eq_false fun h => c1 ⟨g, h⟩⟩
            · exact .inl (decide_eq_false g)
          by_cases c2 : z = 0
          · subst c2
            by_cases c3 : u = 120
            · subst c3
              rcases c1a with d1 | ⟨d1, d2⟩
              all_goals
                clear c1
                go_wp2
                go_meet
                exact ⟨true, by first | rfl | simp, by first | rfl | trivial, fun h => by cases h⟩
            · have b3 : (u == 120) = false := beq_eq_false_iff_ne.2 c3
              obtain ⟨q, hq⟩ : ∃ q, (u == 88) = q := ⟨_, rfl⟩
              have hqd : decide (u = 88) = q := by rw [← hq]; rfl
              have hq2 : q = false → ¬ (48 ≤ u ∧ u ≤ 57) ∧ ((0 : Int) = 0 → u ≠ 120 ∧ u ≠ 88) := fun h => ⟨c1, fun _ => ⟨c3, by rw [h] at hq; exact beq_eq_false_iff_ne.1 hq⟩⟩
              have HQ := Lib.hid hq2
              rcases c1a with d1 | ⟨d1, d2⟩
              all_goals
                clear c1 hq2
                go_wp2
                go_meet
                exact ⟨q, by first | rfl | (simp [hq]; done) | simp [hqd], by first | rfl | trivial, fun h => by have := HQ.out h; exact ⟨this.1, fun _ => by first | exact this.2 rfl | exact this.2 trivial⟩⟩
          · have b2 : (z == 0) = false := beq_eq_false_iff_ne.2 c2
            have HC := Lib.hid c1
            rcases c1a with d1 | ⟨d1, d2⟩
            all_goals
              clear c1
              go_wp2
              go_meet
              exact ⟨false, by first | rfl | simp, by first | rfl | trivial, fun _ => ⟨HC.out, fun h => absurd h c2⟩⟩
      case rest =>
        obtain ⟨q, rfl, rfl, hq⟩ := hcut
        cases q with
        | true =>
          clear hq NW OF BH PI SS CVF
          go_wp2
          go_ret
          exact ⟨rfl, H3⟩
        | false =>
          have hB := hq rfl
          have BB := BH hB.1 (fun h => hB.2 (hzi.1 h))
          have PI2 := PI ht4 BB
          clear hq BH PI BB hB hzi hz hzl
          go_wp2_with fail
          refine (NW _).mono ?_
          rintro e w4 ⟨hh, rfl, A4⟩
          clear NW
          have z1 : ¬ 9223372036854775807 < 2 + D.length := by omega
          go_wp2_with fail
          refine (OF _).mono ?_
          rintro e w5 ⟨rfl, h5⟩
          have A5 := (A4.pure h5).1
          clear A4 OF h5
          have hwl : (wide8 ([32, 9] ++ D)).length ≤ 100 := by rw [wide8_len]; simp; omega
          obtain ⟨y, hy⟩ : ∃ y, wide8 ([32, 9] ++ D) = y := ⟨_, rfl⟩
          rw [hy] at hwl PI2 ⊢
          have z2 : ¬ 9223372036854775807 < y.length + tail.length := by omega
          have Z6 := bk_new w5 (.cells #[.int .i64 4, .float .f64 0, .string ⟨(y ++ tail).toArray⟩, .int .i64 0] 25)
          have PZ : Pur w5 (w5.alloc (.cells #[.int .i64 4, .float .f64 0, .string ⟨(y ++ tail).toArray⟩, .int .i64 0] 25)) := (Pur.refl w5).alloc _
          have A6 := A5.keep PZ w5.heap.size (Nat.le_refl _) (bk_lt Z6)
          have hW6 := (hW.pur H3).pur A6.pur
          have CI := call_plain (v := Va.zero) (av := .slice (some ⟨w5.heap.size, 0, none⟩) 1 1) (vs := [tx (y ++ tail)]) A6 (.inr ⟨w5.heap.size, 1, (0, 0), rfl, Z6⟩) (fun b hb => by simp [Value.ownBlock] at hb; exact .inr hb.symm) 5 ⟨3, x, [], 0⟩ (by decide) (fun K' W cb hcb hka hA hC hp => plain_int _ _ hA hC hcb hka (fun w' hp2 => num_und _ _ ((hW6.pur hp).pur hp2).ut (fun w'' hp3 => nq_any (((hW6.pur hp).pur hp2).pur hp3).c)) (fun w' hp2 => PI2 w' ((hW6.pur hp).pur hp2).c))
          simp only [Va.v, Va.cells, Va.zero] at CI
          clear A5 Z6 PZ hW6 PI2 hy
          go_wp2_with fail
          refine CI.mono ?_
          rintro e w7 ⟨rfl, A7, -⟩
          have P7 := H3.trans A7.pur
          have S7 := bk_new w7 (.cells #[.int .i64 3, .float .f64 x, .string ⟨#[]⟩, .int .i64 0] 25)
          have PF := P7.alloc (.cells #[.int .i64 3, .float .f64 x, .string ⟨#[]⟩, .int .i64 0] 25)
          have s1 := bk_cell S7 1 _ rfl
          clear CI A7 A6 S7 P7
          go_wp2_with fail
          refine (SS _).mono ?_
          rintro e w8 ⟨rfl, rfl⟩
          go_wp2
          go_ret
          exact ⟨by simp, PF⟩
end Li
end Go.Proofs.YtgdolcoiihagfaaGreatDoor
