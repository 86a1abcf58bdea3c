/- Roundings of cut numbers; the reading by scaling is exact. The reading by scaling rounds rightly. The reading by scaling gives the float that the number rounds to. Near is equal, for what is read of few digits. -/
import Derived.Test.YtciigfaojmpoiaaGreatDoorRbB
namespace Go.Proofs.YtciigfaojmpoiaaGreatDoor
open Go Go.RowKit
set_option linter.all false
namespace Rb
open Us P10
open Ft hiding V
open Ie (V V_lt V_le V_inj)
set_option exponentiation.threshold 20000
theorem rnd_eq {u : Nat} (h : u < 1152921504606846976) : rnd u = (u + 1 + u / 4 % 2) / 4 := by
  unfold rnd
  rw [Nat.mod_eq_of_lt (show u + 1 < 18446744073709551616 by omega), Nat.mod_eq_of_lt (show u + 1 + u / 4 % 2 < 18446744073709551616 by omega)]
/-- to the nearest, and the even one of two -/
theorem rnd_tie {X Q : Nat} (hQ : 0 < Q) (hu : unr X Q < 1152921504606846976) : lo (rnd (unr X Q) % 2) (4 * rnd (unr X Q) * Q) (X + 2 * Q) ∧ lo (rnd (unr X Q) % 2) X ((4 * rnd (unr X Q) + 2) * Q) := by
  rw [rnd_eq hu]
  unfold lo
  obtain ⟨q, h | h⟩ := unr_cases X hQ
  · obtain ⟨h1, h2⟩ := h
    rw [h2, h1, ← Nat.add_mul, mul_le_q hQ, mul_lt_q hQ, mul_le_q hQ, mul_lt_q hQ]
    obtain ⟨d, hd⟩ : ∃ d, (q + 1 + q / 4 % 2) / 4 = d := ⟨_, rfl⟩
    rw [hd]
    obtain ⟨a, r, ha, hr⟩ : ∃ a r, q = 8 * a + r ∧ r < 8 := ⟨q / 8, q % 8, by omega, by omega⟩
    have hb : q / 4 % 2 = r / 4 := by omega
    rw [hb] at hd
    have hd2 : d = 2 * a + (r + 1 + r / 4) / 4 := by omega
    have hr2 : r = 0 ∨ r = 1 ∨ r = 2 ∨ r = 3 ∨ r = 4 ∨ r = 5 ∨ r = 6 ∨ r = 7 := by omega
    clear hd hb
    refine ⟨?_, ?_⟩
    · rcases hr2 with rfl | rfl | rfl | rfl | rfl | rfl | rfl | rfl <;> split <;> omega
    · rcases hr2 with rfl | rfl | rfl | rfl | rfl | rfl | rfl | rfl <;> split <;> omega
  · obtain ⟨h1, h2, h3, h4, h5⟩ := h
    obtain ⟨d, hd⟩ : ∃ d, (unr X Q + 1 + unr X Q / 4 % 2) / 4 = d := ⟨_, rfl⟩
    have a1 : 4 * d ≤ q + 2 := by omega
    have a2 : q + 1 ≤ 4 * d + 2 := by omega
    rw [hd]
    have b1 := (mul_le_q (q := 4 * d) (k := q + 2) hQ).2 a1
    have b2 := (mul_le_q (q := q + 1) (k := 4 * d + 2) hQ).2 a2
    rw [Nat.add_mul q 2] at b1
    refine ⟨?_, ?_⟩
    · split <;> omega
    · split <;> omega
theorem or_bit_even (q : Nat) : q ||| q % 2 = q := by
  rcases (show q % 2 = 0 ∨ q % 2 = 1 by omega) with h | h
  · rw [h, Nat.or_zero]
  · rw [h]
    have := or1 q
    omega
theorem unr_half {X Q : Nat} (hQ : 0 < Q) : unr X Q / 2 ||| unr X Q % 2 = unr X (Q * 2) := by
  have hdm := Nat.div_add_mod X Q
  have hr := Nat.mod_lt X hQ
  have e1 : X / (Q * 2) = X / Q / 2 := by rw [Nat.div_div_eq_div_mul]
  have e2 : X % (Q * 2) = X % Q + Q * (X / Q % 2) := Nat.mod_mul
  unfold unr
  rw [e1, e2]
  obtain ⟨q, hq⟩ : ∃ q, X / Q = q := ⟨_, rfl⟩
  obtain ⟨r, hrr⟩ : ∃ r, X % Q = r := ⟨_, rfl⟩
  rw [hq, hrr]
  by_cases g : r = 0
  · subst g
    rw [show b2 (decide ((0 : Nat) ≠ 0)) = 0 from rfl, Nat.or_zero]
    congr 1
    rcases (show q % 2 = 0 ∨ q % 2 = 1 by omega) with h | h
    · rw [h, Nat.mul_zero]; rfl
    · rw [h, decide_eq_true (by omega : 0 + Q * 1 ≠ 0)]; rfl
  · rw [decide_eq_true (by omega : r ≠ 0), decide_eq_true (by omega : r + Q * (q % 2) ≠ 0)]
    obtain ⟨o1, o2, o3⟩ := or1 q
    show (q ||| 1) / 2 ||| (q ||| 1) % 2 = q / 2 ||| 1
    rw [o3, show (q ||| 1) / 2 = q / 2 by omega]
/-- more of the table -/
def tab2B (i : Nat) : Bool := let p : Int := (i : Int) - 345
  decide (170141183460469231731687303715884105728 * dt p ≤ nt p) && decide (nt p * 1024 ≤ 1023 * (340282366920938463463374607431768211456 * dt p))
set_option maxRecDepth 100000 in
theorem tab2_ok : (List.range 676).all tab2B = true := by decide +kernel
theorem tab2_at {p : Int} (h0 : -345 ≤ p) (h1 : p ≤ 330) : 170141183460469231731687303715884105728 * dt p ≤ nt p ∧ nt p * 1024 ≤ 1023 * (340282366920938463463374607431768211456 * dt p) := by
  have h := List.all_eq_true.1 tab2_ok (p + 345).toNat (List.mem_range.2 (by omega))
  unfold tab2B at h
  rw [show (((p + 345).toNat : Nat) : Int) - 345 = p by omega] at h
  simp only [Bool.and_eq_true, decide_eq_true_eq] at h
  exact h
/-- a normal float's neighbours -/
theorem nbs {k f : Nat} (hf : f < 4503599627370496) : V ((k + 1) * 4503599627370496 + f) = (4503599627370496 + f) * 2 ^ k ∧ V ((k + 1) * 4503599627370496 + f + 1) = (4503599627370496 + f) * 2 ^ k + 2 ^ k ∧
    (0 < f ∨ k = 0 → V ((k + 1) * 4503599627370496 + f - 1) + 2 ^ k = (4503599627370496 + f) * 2 ^ k) ∧ (f = 0 → 0 < k → 2 * V ((k + 1) * 4503599627370496 + f - 1) + 2 ^ k = 2 * (4503599627370496 * 2 ^ k)) := by
  obtain ⟨b, hb⟩ : ∃ b, (k + 1) * 4503599627370496 + f = b := ⟨_, rfl⟩
  rw [hb]
  have d0 : b / 4503599627370496 = k + 1 := by omega
  have m0 : b % 4503599627370496 = f := by omega
  have hVb : V b = (4503599627370496 + f) * 2 ^ k := by rw [V_norm (by omega), d0, m0, Nat.add_sub_cancel]
  refine ⟨hVb, ?_, ?_, ?_⟩
  · by_cases g : f + 1 < 4503599627370496
    · have d1 : (b + 1) / 4503599627370496 = k + 1 := by omega
      have d2 : (b + 1) % 4503599627370496 = f + 1 := by omega
      rw [V_norm (by omega), d1, d2, Nat.add_sub_cancel, ← Nat.add_assoc, Nat.add_mul _ 1, Nat.one_mul]
    · have d1 : (b + 1) / 4503599627370496 = k + 2 := by omega
      have d2 : (b + 1) % 4503599627370496 = 0 := by omega
      rw [V_norm (by omega), d1, d2, show k + 2 - 1 = k + 1 by omega, Nat.pow_succ]
      have : f = 4503599627370495 := by omega
      rw [this]
      omega
  · intro h
    by_cases g : 0 < f
    · have d1 : (b - 1) / 4503599627370496 = k + 1 := by omega
      have d2 : (b - 1) % 4503599627370496 = f - 1 := by omega
      rw [V_norm (b := b - 1) (by omega), d1, d2, Nat.add_sub_cancel]
      obtain ⟨j, rfl⟩ : ∃ j, f = j + 1 := ⟨f - 1, by omega⟩
      rw [Nat.add_sub_cancel, ← Nat.add_assoc, Nat.add_mul _ 1, Nat.one_mul]
    · obtain rfl : k = 0 := by omega
      obtain rfl : f = 0 := by omega
      rw [V_sub (by omega)]
      omega
  · intro hf0 hk
    obtain ⟨j, rfl⟩ : ∃ j, k = j + 1 := ⟨k - 1, by omega⟩
    subst hf0
    have d1 : (b - 1) / 4503599627370496 = j + 1 := by omega
    have d2 : (b - 1) % 4503599627370496 = 4503599627370495 := by omega
    rw [V_norm (by omega), d1, d2, Nat.add_sub_cancel, Nat.pow_succ]
    generalize 2 ^ j = X
    omega
end Rb
end Go.Proofs.YtciigfaojmpoiaaGreatDoor
namespace Go.Proofs.YtciigfaojmpoiaaGreatDoor
open Go Go.RowKit
set_option linter.all false
namespace Rb
open Us P10
open Ft hiding V
open Ie (V V_lt V_le V_inj)
set_option exponentiation.threshold 20000
theorem lo_two {o a b Q : Nat} (hQ : 0 < Q) (k : Nat) : lo o (a * (k * Q)) (b * (k * Q)) ↔ (k = 0 ∧ o = 0) ∨ (0 < k ∧ lo o a b) := by
  rcases Nat.eq_zero_or_pos k with h | h
  · subst h
    rw [Nat.zero_mul, Nat.mul_zero, Nat.mul_zero]
    unfold lo
    split <;> simp_all
  · rw [lo_mul (Nat.mul_pos h hQ)]
    constructor
    · intro g; exact .inr ⟨h, g⟩
    · rintro (⟨g, -⟩ | ⟨-, g⟩)
      · omega
      · exact g
theorem mid_a {F T a b : Nat} (h1 : a = F * T) (h2 : b = F * T + T) : a + b = (2 * F + 1) * T := by
  rw [h1, h2, Nat.add_mul, Nat.one_mul, Nat.mul_assoc]; omega
theorem mid_b {F T a b : Nat} (hF : 0 < F) (h1 : a + T = F * T) (h2 : b = F * T) : a + b = (2 * F - 1) * T := by
  obtain ⟨G, rfl⟩ : ∃ G, F = G + 1 := ⟨F - 1, by omega⟩
  rw [show 2 * (G + 1) - 1 = 2 * G + 1 by omega, Nat.add_mul, Nat.one_mul, Nat.mul_assoc]
  rw [Nat.add_mul, Nat.one_mul] at h1 h2
  omega
theorem mid_c {F T a b : Nat} (hF : 0 < F) (h1 : 2 * a + T = 2 * (F * T)) (h2 : b = F * T) : 2 * (a + b) = (4 * F - 1) * T := by
  obtain ⟨G, rfl⟩ : ∃ G, F = G + 1 := ⟨F - 1, by omega⟩
  rw [show 4 * (G + 1) - 1 = 4 * G + 3 by omega, Nat.add_mul, Nat.mul_assoc]
  rw [Nat.add_mul, Nat.one_mul] at h1 h2
  omega
/-- the middles to the neighbours of a rounded number -/
theorem mids_r {g m : Nat} (m0 : 0 < m) (m1 : m < 9007199254740992) (hg : g = 0 ∨ 4503599627370496 ≤ m) :
    V (g * 4503599627370496 + m) + V (g * 4503599627370496 + m + 1) = (2 * m + 1) * 2 ^ g ∧
    (¬ (m = 4503599627370496 ∧ 0 < g) → V (g * 4503599627370496 + m - 1) + V (g * 4503599627370496 + m) = (2 * m - 1) * 2 ^ g) ∧ ((m = 4503599627370496 ∧ 0 < g) → 2 * (V (g * 4503599627370496 + m - 1) + V (g * 4503599627370496 + m)) = (4 * m - 1) * 2 ^ g) := by
  by_cases c : 4503599627370496 ≤ m
  · obtain ⟨f, hf⟩ : ∃ f, m = 4503599627370496 + f := ⟨m - 4503599627370496, by omega⟩
    obtain ⟨n1, n2, n3, n4⟩ := nbs (k := g) (f := f) (by omega)
    have e : g * 4503599627370496 + m = (g + 1) * 4503599627370496 + f := by omega
    rw [e]
    rw [← hf] at n1 n2 n3
    refine ⟨mid_a n1 n2, fun h => mid_b m0 (n3 (by omega)) n1, fun h => mid_c m0 ?_ n1⟩
    have hm := h.1
    have n4 := n4 (by omega) h.2
    exact n4.trans (by rw [hm])
  · have hg0 : g = 0 := by omega
    subst hg0
    have v0 := V_sub (b := 0 * 4503599627370496 + m) (by omega)
    have v1 := V_sub (b := 0 * 4503599627370496 + m + 1) (by omega)
    have v2 := V_sub (b := 0 * 4503599627370496 + m - 1) (by omega)
    rw [v0, v1, v2]
    exact ⟨by omega, fun _ => by omega, fun h => by omega⟩
/-- what lies nearest gives a float that the number rounds to -/
theorem round_inv0 {n d X Q g m : Nat} (hQ : 0 < Q) (hd : 0 < d) (t1 : lo (m % 2) (4 * m * Q) (X + 2 * Q)) (t2 : lo (m % 2) X ((4 * m + 2) * Q)) (e : n * (4 * Q) = X * (2 ^ g * d)) (m0 : 0 < m) (m1 : m < 9007199254740992)
    (hg : g = 0 ∨ 4503599627370496 ≤ m) (hedge : m = 4503599627370496 → 0 < g → (4 * m - 1) * Q ≤ X) : Inv (g * 4503599627370496 + m) n d := by
  have hpar : (g * 4503599627370496 + m) % 2 = m % 2 := by omega
  have hp : 0 < 2 ^ g := Nat.pow_pos (by decide)
  have hpd : 0 < 2 ^ g * d := Nat.mul_pos hp hd
  obtain ⟨up, low⟩ := mids_r m0 m1 hg
  have hk : 2 * n * (2 * Q) = X * (2 ^ g * d) := by rw [← e, show 4 * Q = 2 * (2 * Q) by omega, Nat.mul_comm 2 n, Nat.mul_assoc]
  refine ⟨?_, ?_⟩
  · rw [hpar]
    by_cases c : m = 4503599627370496 ∧ 0 < g
    · have l2 := low.2 c
      rw [← lo_mul (show 0 < 4 * Q by omega)]
      have e1 : (V (g * 4503599627370496 + m - 1) + V (g * 4503599627370496 + m)) * d * (4 * Q) = (4 * m - 1) * Q * 2 * (2 ^ g * d) := by
        calc _ = 2 * (V (g * 4503599627370496 + m - 1) + V (g * 4503599627370496 + m)) * (2 * (d * Q)) := by
              generalize V (g * 4503599627370496 + m - 1) + V (g * 4503599627370496 + m) = vs
              rw [show 4 * Q = 2 * (2 * Q) by omega]
              simp only [Nat.mul_assoc, Nat.mul_comm, Nat.mul_left_comm]
          _ = (4 * m - 1) * 2 ^ g * (2 * (d * Q)) := by rw [l2]
          _ = _ := by
              generalize 4 * m - 1 = c1
              simp only [Nat.mul_assoc, Nat.mul_comm, Nat.mul_left_comm]
      have e2 : 2 * n * (4 * Q) = X * 2 * (2 ^ g * d) := by rw [show 4 * Q = 2 * Q * 2 by omega, ← Nat.mul_assoc, hk, Nat.mul_right_comm]
      rw [e1, e2, lo_mul hpd]
      have := hedge c.1 c.2
      unfold lo
      rw [if_pos (by omega)]
      omega
    · have l1 := low.1 c
      rw [← lo_mul (show 0 < 2 * Q by omega), hk, l1]
      have e1 : (2 * m - 1) * 2 ^ g * d * (2 * Q) = (4 * m - 2) * Q * (2 ^ g * d) := by
        rw [show 4 * m - 2 = 2 * (2 * m - 1) by omega]
        generalize 2 * m - 1 = c1
        simp only [Nat.mul_assoc, Nat.mul_comm, Nat.mul_left_comm]
      rw [e1, lo_mul hpd]
      unfold lo at t1 ⊢
      have e2 : (4 * m - 2) * Q + 2 * Q = 4 * m * Q := by rw [← Nat.add_mul]; congr 1; omega
      split at t1 <;> rename_i q
      · rw [if_pos q]; omega
      · rw [if_neg q]; omega
  · rw [hpar, ← lo_mul (show 0 < 2 * Q by omega), hk, up]
    have e1 : (2 * m + 1) * 2 ^ g * d * (2 * Q) = (4 * m + 2) * Q * (2 ^ g * d) := by
      rw [show 4 * m + 2 = 2 * (2 * m + 1) by omega]
      generalize 2 * m + 1 = c1
      simp only [Nat.mul_assoc, Nat.mul_comm, Nat.mul_left_comm]
    rw [e1, lo_mul hpd]
    exact t2
/-- a rounding by the cut gives a float that the number rounds to -/
theorem round_inv {n d X Q g m : Nat} (hQ : 0 < Q) (hd : 0 < d) (hu : unr X Q < 1152921504606846976) (hm : rnd (unr X Q) = m) (e : n * (4 * Q) = X * (2 ^ g * d)) (m0 : 0 < m) (m1 : m < 9007199254740992)
    (hg : g = 0 ∨ 4503599627370496 ≤ m) (hedge : m = 4503599627370496 → 0 < g → (4 * m - 1) * Q ≤ X) : Inv (g * 4503599627370496 + m) n d := by
  obtain ⟨t1, t2⟩ := rnd_tie hQ hu
  rw [hm] at t1 t2
  exact round_inv0 hQ hd t1 t2 e m0 m1 hg hedge
theorem and52 {m : Nat} (h : m < 4503599627370496) : m &&& 4503599627370496 = 0 := by
  apply Nat.eq_of_testBit_eq
  intro j
  rw [show (4503599627370496 : Nat) = 2 ^ 52 by decide, Nat.testBit_and, Nat.zero_testBit]
  by_cases g : j = 52
  · subst g
    rw [Nat.testBit_lt_two_pow (show m < 2 ^ 52 from h)]; rfl
  · rw [Nat.testBit_two_pow_of_ne (fun e => g e.symm)]; simp
theorem and52' {f : Nat} (h : f < 4503599627370496) : (4503599627370496 + f) &&& 4503599627370496 ≠ 0 := by
  intro e
  have := congrArg (Nat.testBit · 52) e
  simp only [Nat.testBit_and, Nat.zero_testBit] at this
  rw [show (4503599627370496 : Nat) = 2 ^ 52 by decide, Nat.testBit_two_pow_add_eq, Nat.testBit_two_pow_self, Nat.testBit_lt_two_pow (show f < 2 ^ 52 from h)] at this
  cases this
theorem andnot52 {f : Nat} (h : f < 4503599627370496) : bits .andNot .u64 ((4503599627370496 + f : Nat) : Int) 4503599627370496 = (f : Int) := by
  have e := u64_andNot_nat (4503599627370496 + f) 4503599627370496 (by omega) (by decide)
  rw [show ((4503599627370496 : Nat) : Int) = 4503599627370496 from rfl] at e
  rw [e]
  congr 1
  apply Nat.eq_of_testBit_eq
  intro j
  have hc : (18446744073709551615 - 4503599627370496 : Nat) = (2 ^ 52 - 1) ||| (2047 <<< 53) := by decide
  rw [hc, Nat.testBit_and, Nat.testBit_or, Nat.testBit_two_pow_sub_one, Nat.testBit_shiftLeft]
  rcases Nat.lt_trichotomy j 52 with g | g | g
  · rw [show (4503599627370496 : Nat) = 2 ^ 52 by decide, Nat.testBit_two_pow_add_gt g]
    simp [g]
  · subst g
    rw [Nat.testBit_lt_two_pow (show f < 2 ^ 52 from h)]
    simp
  · rw [Nat.testBit_lt_two_pow (show f < 2 ^ j from Nat.lt_of_lt_of_le h (Nat.pow_le_pow_right (n := 2) (by decide) (show 52 ≤ j by omega))),
      Nat.testBit_lt_two_pow (show 4503599627370496 + f < 2 ^ j from Nat.lt_of_lt_of_le (show 4503599627370496 + f < 2 ^ 53 by omega) (Nat.pow_le_pow_right (n := 2) (by decide) (show 53 ≤ j by omega)))]
    rfl
/-- packed -/
theorem pk_eq {m g : Nat} {e : Int} (hm : m < 9007199254740992) (hg : g = 0 ∨ 4503599627370496 ≤ m) (he : e = (g : Int) - 1074) (hb : g * 4503599627370496 + m < 9218868437227405312) : pk m e = (g * 4503599627370496 + m, false) := by
  unfold pk
  by_cases c : m < 4503599627370496
  · rw [if_pos (and52 c), show g = 0 by omega]
    simp
  · obtain ⟨f, rfl⟩ : ∃ f, m = 4503599627370496 + f := ⟨m - 4503599627370496, by omega⟩
    have hf : f < 4503599627370496 := by omega
    rw [if_neg (and52' hf), if_neg (by omega), andnot52 hf]
    have e1 : (1075 + e) * 4503599627370496 = (((g + 1) * 4503599627370496 : Nat) : Int) := by rw [he]; omega
    have o := u64_or_nat f ((g + 1) * 4503599627370496) (by omega) (by omega)
    rw [e1, o]
    congr 1
    rw [Int.toNat_natCast, Nat.or_comm]
    have s := Nat.shiftLeft_add_eq_or_of_lt (b := f) (i := 52) hf (g + 1)
    rw [Nat.shiftLeft_eq, show (2 : Nat) ^ 52 = 4503599627370496 by decide] at s
    rw [← s]
    omega
end Rb
end Go.Proofs.YtciigfaojmpoiaaGreatDoor
namespace Go.Proofs.YtciigfaojmpoiaaGreatDoor
open Go Go.RowKit
set_option linter.all false
namespace Rb
open Us P10
open Ft hiding V expo
open Ie (V V_lt V_le V_inj)
set_option exponentiation.threshold 20000
theorem bridge {M A B t1 a be bl S g : Nat} (h : 1074 + 2 + S + 128 + be = t1 + a + g) :
    M * A * 2 ^ 1074 * (4 * (2 ^ S * (340282366920938463463374607431768211456 * (B * 2 ^ be)))) = M * 2 ^ t1 * (A * 2 ^ a) * (2 ^ g * B) := by
  have f1 : (4 : Nat) = 2 ^ 2 := rfl
  have f2 : (340282366920938463463374607431768211456 : Nat) = 2 ^ 128 := rfl
  calc _ = M * A * B * (2 ^ 1074 * 2 ^ 2 * 2 ^ S * 2 ^ 128 * 2 ^ be) := by
        rw [f1, f2]
        generalize 2 ^ 1074 = a1
        generalize 2 ^ 2 = a2
        generalize 2 ^ S = a3
        generalize 2 ^ 128 = a4
        generalize 2 ^ be = a5
        simp only [Nat.mul_assoc, Nat.mul_comm, Nat.mul_left_comm]
    _ = M * A * B * (2 ^ t1 * 2 ^ a * 2 ^ g) := by rw [← Nat.pow_add, ← Nat.pow_add, ← Nat.pow_add, ← Nat.pow_add, h, Nat.pow_add, Nat.pow_add]
    _ = _ := by
        generalize 2 ^ t1 = a1
        generalize 2 ^ a = a2
        generalize 2 ^ g = a3
        simp only [Nat.mul_assoc, Nat.mul_comm, Nat.mul_left_comm]
theorem inv_pos {b n d : Nat} (hb : 0 < b) (hd : 0 < d) (h : Inv b n d) : d < 2 * n := by
  have h1 := h.1
  have hV : b ≤ V b := by
    have : ∀ b, b ≤ V b := fun b => by
      induction b with
      | zero => exact Nat.zero_le _
      | succ k ih => have := V_lt (show k < k + 1 by omega); omega
    exact this b
  by_cases g : b = 1
  · subst g
    unfold lo at h1
    rw [if_neg (by decide)] at h1
    rw [show V (1 - 1) + V 1 = 1 by decide, Nat.one_mul] at h1
    exact h1
  · have h2 := lo_le h1
    have : 2 * d ≤ (V (b - 1) + V b) * d := Nat.mul_le_mul_right _ (by omega)
    omega
/-- what is read -/
def xM (M : Nat) : Nat := M * 2 ^ (64 - Lib.bitLen M)
theorem xM_bd {M : Nat} (h0 : 0 < M) (h1 : M < 18446744073709551616) : 9223372036854775808 ≤ xM M ∧ xM M < 18446744073709551616 ∧ 1 ≤ Lib.bitLen M ∧ Lib.bitLen M ≤ 64 := by
  obtain ⟨b1, b2, b3⟩ := Lib.bitLenAux_bounds 64 M h1 (by omega)
  have b2' : 2 ^ (Lib.bitLen M - 1) ≤ M := b2
  have b3' : M < 2 ^ Lib.bitLen M := b3
  have b1' : 1 ≤ Lib.bitLen M := b1
  have h64 : Lib.bitLen M ≤ 64 := by
    have : Lib.bitLen M - 1 < 64 := (Nat.pow_lt_pow_iff_right (show 1 < 2 by decide)).1 (Nat.lt_of_le_of_lt b2' (show M < 2 ^ 64 from h1))
    omega
  have hp : 0 < 2 ^ (64 - Lib.bitLen M) := Nat.pow_pos (by decide)
  unfold xM
  refine ⟨?_, ?_, b1', h64⟩
  · calc 9223372036854775808 = 2 ^ (Lib.bitLen M - 1) * 2 ^ (64 - Lib.bitLen M) := by rw [← Nat.pow_add, show Lib.bitLen M - 1 + (64 - Lib.bitLen M) = 63 by omega]
      _ ≤ M * 2 ^ (64 - Lib.bitLen M) := Nat.mul_le_mul_right _ b2'
  · calc M * 2 ^ (64 - Lib.bitLen M) < 2 ^ Lib.bitLen M * 2 ^ (64 - Lib.bitLen M) := Nat.mul_lt_mul_of_pos_right b3' hp
      _ = 18446744073709551616 := by rw [← Nat.pow_add, show Lib.bitLen M + (64 - Lib.bitLen M) = 64 by omega]
/-- near is equal, for what is read -/
def Near (M : Nat) (Q : Int) : Prop := ∀ h, (xM M * nt Q < h * (2 ^ 8 * (340282366920938463463374607431768211456 * dt Q)) + 36893488147419103232 * dt Q) → (h * (2 ^ 8 * (340282366920938463463374607431768211456 * dt Q)) < xM M * nt Q + 36893488147419103232 * dt Q) → xM M * nt Q = h * (2 ^ 8 * (340282366920938463463374607431768211456 * dt Q))
/-- the product by what is read, exactly -/
theorem unr_read {M : Nat} {Q : Int} (hM0 : 0 < M) (hM : M < 18446744073709551616) (hQ0 : -345 ≤ Q) (hQ1 : Q ≤ 310) (near : Near M Q) {S : Nat} (h8 : 8 ≤ S) (hS : (scl M Q).toNat = S) :
    Us.unr Hi0 Lo0 M Q = unr (xM M * nt Q) (2 ^ S * (340282366920938463463374607431768211456 * dt Q)) := by
  obtain ⟨x0, x1, -, -⟩ := xM_bd hM0 hM
  obtain ⟨t1, t2, t3⟩ := tab_at (p := Q) (by omega) (by omega)
  have hA := pow_at (k := (Q + 348).toNat) (by omega)
  unfold Us.unr
  rw [hS]
  refine usc_exact (x := M * 2 ^ (64 - Lib.bitLen M)) (show 4611686018427387904 ≤ xM M by omega) x1 hA.2.1 hA.2.2.1 hA.2.2.2 t3 (dt_pos _) t2 t1 ?_
  intro h k1 k2
  have e : h * (2 ^ S * (340282366920938463463374607431768211456 * dt Q)) = (h * 2 ^ (S - 8)) * (2 ^ 8 * (340282366920938463463374607431768211456 * dt Q)) := by
    rw [Nat.mul_assoc h, ← Nat.mul_assoc (2 ^ (S - 8)), ← Nat.pow_add, show S - 8 + 8 = S by omega]
  rw [e] at k1 k2 ⊢
  exact near _ k1 k2
theorem rnd_bd {u : Nat} (h : u < 1152921504606846976) : u ≤ 4 * rnd u + 2 ∧ 4 * rnd u ≤ u + 2 := by
  rw [rnd_eq h]
  obtain ⟨a, r, ha, hr⟩ : ∃ a r, u = 8 * a + r ∧ r < 8 := ⟨u / 8, u % 8, by omega, by omega⟩
  have hb : u / 4 % 2 = r / 4 := by omega
  rw [hb]
  have hr2 : r = 0 ∨ r = 1 ∨ r = 2 ∨ r = 3 ∨ r = 4 ∨ r = 5 ∨ r = 6 ∨ r = 7 := by omega
  clear hb
  rcases hr2 with rfl | rfl | rfl | rfl | rfl | rfl | rfl | rfl <;> omega
set_option maxHeartbeats 4000000 in
/-- THE READING BY SCALING IS RIGHT -/
theorem rd_right {M : Nat} {Q : Int} {b : Nat} (hM0 : 0 < M) (hM : M < 18446744073709551616) (hQ0 : -345 ≤ Q) (hQ1 : Q ≤ 310) (near : Near M Q) (hb0 : 0 < b) (hb1 : b < 9218868437227405312)
    (hI : Inv b (M * 10 ^ Q.toNat * 2 ^ 1074) (10 ^ (-Q).toNat)) : rd Hi0 Lo0 M Q = (b, false) := by
  obtain ⟨x0, x1, l0, l1⟩ := xM_bd hM0 hM
  obtain ⟨t1, t2⟩ := tab2_at (p := Q) (by omega) (by omega)
  have hlg : -1147 ≤ lg Q ∧ lg Q ≤ 1030 := by unfold lg; omega
  have he : expo M Q ≤ 1074 ∧ expo M Q ≤ 53 - (Lib.bitLen M : Int) - lg Q ∧ (expo M Q = 1074 ∨ expo M Q = 53 - (Lib.bitLen M : Int) - lg Q) := by unfold expo; omega
  have hs : scl M Q = 61 - (Lib.bitLen M : Int) - lg Q - expo M Q := by unfold scl; omega
  have hd : 0 < 10 ^ (-Q).toNat := Nat.pow_pos (by decide)
  have hn := inv_pos hb0 hd hI
  have hdt := dt_pos Q
  obtain ⟨S, hS⟩ : ∃ S, (scl M Q).toNat = S := ⟨_, rfl⟩
  have hS8 : 8 ≤ S := by omega
  have hu := unr_read hM0 hM hQ0 hQ1 near hS8 hS
  have br : ∀ S' g, 1074 + 2 + S' + 128 + (lg Q - 127).toNat = (64 - Lib.bitLen M) + (127 - lg Q).toNat + g → M * 10 ^ Q.toNat * 2 ^ 1074 * (4 * (2 ^ S' * (340282366920938463463374607431768211456 * dt Q))) = xM M * nt Q * (2 ^ g * 10 ^ (-Q).toNat) := fun S' g h => bridge (bl := 0) h
  have hX : xM M * nt Q * 1024 < 18446744073709551616 * 1023 * (340282366920938463463374607431768211456 * dt Q) := by
    calc xM M * nt Q * 1024 = xM M * (nt Q * 1024) := Nat.mul_assoc ..
      _ ≤ xM M * (1023 * (340282366920938463463374607431768211456 * dt Q)) := Nat.mul_le_mul_left _ t2
      _ < 18446744073709551616 * (1023 * (340282366920938463463374607431768211456 * dt Q)) := Nat.mul_lt_mul_of_pos_right x1 (by omega)
      _ = _ := (Nat.mul_assoc ..).symm
  have hX2 : 4611686018427387904 * (340282366920938463463374607431768211456 * dt Q) ≤ xM M * nt Q := by
    have := Nat.mul_le_mul x0 t1
    omega
  generalize xM M * nt Q = X at *
  generalize hT : 340282366920938463463374607431768211456 * dt Q = T at *
  have hT0 : 0 < T := by omega
  have hP : 2 ^ S = 2 ^ (S - 8) * 256 := by rw [show (256 : Nat) = 2 ^ 8 by rfl, ← Nat.pow_add, show S - 8 + 8 = S by omega]
  have hQs : 256 * T ≤ 2 ^ S * T := Nat.mul_le_mul_right _ (by rw [hP]; have := Nat.pow_pos (n := S - 8) (show 0 < 2 by decide); omega)
  have hQs0 : 0 < 2 ^ S * T := by omega
  have hXQ : X < 71987225293750272 * (2 ^ S * T) := by omega
  unfold rd
  by_cases c64 : 64 ≤ scl M Q
  · exfalso
    have b0 := br S 0 (by omega)
    rw [Nat.pow_zero, Nat.one_mul] at b0
    have hbig : 18446744073709551616 * T ≤ 2 ^ S * T := Nat.mul_le_mul_right _ (Nat.pow_le_pow_right (n := 2) (by decide) (show 64 ≤ S by omega))
    have h2 : 10 ^ (-Q).toNat * (2 * (2 ^ S * T)) < X * 10 ^ (-Q).toNat := by
      rw [← b0]
      calc _ < 2 * (M * 10 ^ Q.toNat * 2 ^ 1074) * (2 * (2 ^ S * T)) := Nat.mul_lt_mul_of_pos_right hn (by omega)
        _ = _ := by
          generalize M * 10 ^ Q.toNat * 2 ^ 1074 = n
          generalize 2 ^ S * T = q
          rw [show 4 * q = 2 * (2 * q) by omega, Nat.mul_comm 2 n, Nat.mul_assoc]
    rw [Nat.mul_comm X] at h2
    have := Nat.lt_of_mul_lt_mul_left h2
    omega
  rw [if_neg c64, hu]
  obtain ⟨q, hq⟩ := unr_cases X hQs0
  have hub : unr X (2 ^ S * T) ≤ 71987225293750272 ∧ q * (2 ^ S * T) ≤ X ∧ q ≤ unr X (2 ^ S * T) ∧ unr X (2 ^ S * T) ≤ q + 1 ∧ (unr X (2 ^ S * T) = q ∨ unr X (2 ^ S * T) % 2 = 1) := by
    have hqX : q * (2 ^ S * T) ≤ X := by rcases hq with h | h <;> omega
    have hq2 : q < 71987225293750272 := (mul_lt_q hQs0).1 (Nat.lt_of_le_of_lt hqX hXQ)
    rcases hq with h | h
    · exact ⟨by omega, hqX, by omega, by omega, .inl h.2⟩
    · exact ⟨by omega, hqX, by omega, by omega, .inr h.2.2.2.2⟩
  obtain ⟨u1, u2, u3, u4, u5⟩ := hub
  have hlarge : expo M Q < 1074 → 18014398509481984 * (2 ^ S * T) ≤ X := fun h => by
    have : S = 8 := by omega
    rw [this]
    omega
  by_cases c : 36028797018963966 ≤ unr X (2 ^ S * T)
  · -- one place down
    have hh : half (unr X (2 ^ S * T)) = unr X (2 ^ S * T * 2) := by unfold half; rw [if_pos c]; exact unr_half hQs0
    have hv := or1 (unr X (2 ^ S * T) / 2)
    have hv2 := or_bit (unr X (2 ^ S * T) / 2) (unr X (2 ^ S * T) % 2) (by omega)
    have hh2 : unr X (2 ^ S * T * 2) = unr X (2 ^ S * T) / 2 ||| unr X (2 ^ S * T) % 2 := (unr_half hQs0).symm
    rw [hh, decide_eq_true c, show ((b2 true : Nat) : Int) = 1 from rfl]
    have hvb : 18014398509481983 ≤ unr X (2 ^ S * T * 2) ∧ unr X (2 ^ S * T * 2) ≤ 35993612646875137 := by rw [hh2]; omega
    obtain ⟨r1, r2⟩ := rnd_bd (u := unr X (2 ^ S * T * 2)) (by omega)
    have hmlo : 4503599627370496 ≤ rnd (unr X (2 ^ S * T * 2)) := by
      rcases Nat.lt_or_ge (unr X (2 ^ S * T * 2)) 18014398509481984 with k | k
      · have : unr X (2 ^ S * T * 2) = 18014398509481983 := by omega
        rw [this]; decide +kernel
      · omega
    obtain ⟨g, hg⟩ : ∃ g : Nat, (g : Int) = 1075 - expo M Q := ⟨(1075 - expo M Q).toNat, by omega⟩
    have b0 := br (S + 1) g (by omega)
    have eQ : 2 ^ (S + 1) * T = 2 ^ S * T * 2 := by rw [Nat.pow_succ, Nat.mul_right_comm]
    rw [eQ] at b0
    have hr := round_inv (m := rnd (unr X (2 ^ S * T * 2))) (show 0 < 2 ^ S * T * 2 by omega) hd (by omega) rfl b0 (by omega) (by omega) (.inr hmlo) (fun hm _ => by
      have hq1 : 36028797018963966 ≤ q := by omega
      have := (mul_le_q (q := 36028797018963966) (k := q) hQs0).2 hq1
      rw [hm]
      omega)
    have hbr := inv_uniq (by omega) hb0 hd hr hI
    have p1 : rnd (unr X (2 ^ S * T * 2)) < 9007199254740992 := by omega
    have p2 : -(expo M Q - 1) = (g : Int) - 1074 := by omega
    generalize rnd (unr X (2 ^ S * T * 2)) = m at *
    rw [pk_eq p1 (.inr hmlo) p2 (by rw [hbr]; exact hb1), hbr]
  · have hh : half (unr X (2 ^ S * T)) = unr X (2 ^ S * T) := by unfold half; rw [if_neg c]; exact or_bit_even _
    rw [hh, decide_eq_false c, show ((b2 false : Nat) : Int) = 0 from rfl]
    obtain ⟨r1, r2⟩ := rnd_bd (u := unr X (2 ^ S * T)) (by omega)
    obtain ⟨g, hg⟩ : ∃ g : Nat, (g : Int) = 1074 - expo M Q := ⟨(1074 - expo M Q).toNat, by omega⟩
    have b0 := br S g (by omega)
    have hml : 0 < g → 4503599627370496 ≤ rnd (unr X (2 ^ S * T)) := fun h => by
      have := hlarge (by omega)
      have hq1 : 18014398509481984 ≤ q ∨ q < 18014398509481984 := by omega
      have hqq : 18014398509481984 ≤ q := by
        rcases hq with k | k
        · rw [k.1] at this; exact (mul_le_q hQs0).1 this
        · have := (mul_lt_q (q := 18014398509481984) (k := q + 1) hQs0).1 (by omega)
          omega
      rcases Nat.lt_or_ge (unr X (2 ^ S * T)) 18014398509481986 with k | k
      · have h2 : unr X (2 ^ S * T) = 18014398509481984 ∨ unr X (2 ^ S * T) = 18014398509481985 := by omega
        rcases h2 with h2 | h2 <;> (rw [h2]; decide +kernel)
      · omega
    have hm0 : 0 < rnd (unr X (2 ^ S * T)) := by
      rcases Nat.eq_zero_or_pos (rnd (unr X (2 ^ S * T))) with k | k
      · exfalso
        have hg0 : g = 0 := by
          rcases Nat.eq_zero_or_pos g with j | j
          · exact j
          · have := hml j; omega
        subst hg0
        rw [Nat.pow_zero, Nat.one_mul] at b0
        have tt := lo_le (rnd_tie hQs0 (show unr X (2 ^ S * T) < 1152921504606846976 by omega)).2
        rw [k] at tt
        have h2 : 10 ^ (-Q).toNat * (2 * (2 ^ S * T)) < X * 10 ^ (-Q).toNat := by
          rw [← b0]
          calc _ < 2 * (M * 10 ^ Q.toNat * 2 ^ 1074) * (2 * (2 ^ S * T)) := Nat.mul_lt_mul_of_pos_right hn (by omega)
            _ = _ := by
              generalize M * 10 ^ Q.toNat * 2 ^ 1074 = n
              generalize 2 ^ S * T = q
              rw [show 4 * q = 2 * (2 * q) by omega, Nat.mul_comm 2 n, Nat.mul_assoc]
        rw [Nat.mul_comm X] at h2
        have := Nat.lt_of_mul_lt_mul_left h2
        omega
      · exact k
    have hgm : g = 0 ∨ 4503599627370496 ≤ rnd (unr X (2 ^ S * T)) := by
      rcases Nat.eq_zero_or_pos g with j | j
      · exact .inl j
      · exact .inr (hml j)
    have hr := round_inv (m := rnd (unr X (2 ^ S * T))) hQs0 hd (by omega) rfl b0 hm0 (by omega) hgm (fun hm hg0 => by
      have := hlarge (by omega)
      rw [hm]
      omega)
    have hbr := inv_uniq (by omega) hb0 hd hr hI
    have p1 : rnd (unr X (2 ^ S * T)) < 9007199254740992 := by omega
    have p2 : -(expo M Q - 0) = (g : Int) - 1074 := by omega
    generalize rnd (unr X (2 ^ S * T)) = m at *
    rw [pk_eq p1 hgm p2 (by rw [hbr]; exact hb1), hbr]
end Rb
end Go.Proofs.YtciigfaojmpoiaaGreatDoor
namespace Go.Proofs.YtciigfaojmpoiaaGreatDoor
open Go Go.RowKit
set_option linter.all false
namespace Rb
open Us P10
open Ft hiding V expo
set_option exponentiation.threshold 20000
theorem pow_pos10 (k : Nat) : 0 < 10 ^ k := Nat.pow_pos (by decide)
theorem pow_pos2 (k : Nat) : 0 < 2 ^ k := Nat.pow_pos (by decide)
theorem cert_at {P : Int} (h0 : -345 ≤ P) (h1 : P ≤ 330) {C : Nat} (c0 : 4 ≤ C) (c1 : C ≤ 10) : cert (2 ^ C * nt P) (2 ^ (8 + 128) * dt P) (2 ^ 57) (63 + 8) = true := by
  have h := List.all_eq_true.1 rd_ok (P + 345).toNat (List.mem_range.2 (by omega))
  unfold rdB at h
  unfold rdC at h
  rw [show (((P + 345).toNat : Nat) : Int) - 345 = P by omega] at h
  have h2 := List.all_eq_true.1 h (C - 4) (List.mem_range.2 (by omega))
  rw [show C - 4 + 4 = C by omega] at h2
  have h3 : cert (nt P * 2 ^ C) (2 ^ 136 * dt P) (2 ^ 57) 71 = true := h2
  rw [Nat.mul_comm] at h3
  exact h3
theorem near_of {M j d t : Nat} {Q P : Int} (hM0 : 0 < M) (hM : M < 18446744073709551616) (hd : M = d * 10 ^ j) (hP : P = Q + j) (hQ0 : -345 ≤ Q) (hQ1 : Q ≤ 330) (hP0 : -345 ≤ P) (hP1 : P ≤ 330)
    (y0 : 72057594037927936 ≤ d * 2 ^ t) (y1 : d * 2 ^ t < 144115188075855872) : Near M Q := by
  obtain ⟨x0, x1, l0, l1⟩ := xM_bd hM0 hM
  obtain ⟨q1, q2⟩ := tab2_at hQ0 hQ1
  obtain ⟨p1, p2⟩ := tab2_at hP0 hP1
  have dq := dt_pos Q
  have dp := dt_pos P
  obtain ⟨u, hu⟩ : ∃ u, (64 - Lib.bitLen M) + (127 - lg Q).toNat + (lg P - 127).toNat = u := ⟨_, rfl⟩
  obtain ⟨v, hv⟩ : ∃ v, t + (127 - lg P).toNat + (lg Q - 127).toNat = v := ⟨_, rfl⟩
  have key : xM M * nt Q * dt P * 2 ^ v = d * 2 ^ t * nt P * dt Q * 2 ^ u := by
    have ex : j + Q.toNat + (-P).toNat = P.toNat + (-Q).toNat := by omega
    have e10 : 10 ^ j * 10 ^ Q.toNat * 10 ^ (-P).toNat = 10 ^ P.toNat * 10 ^ (-Q).toNat := by rw [← Nat.pow_add, ← Nat.pow_add, ex, Nat.pow_add]
    have e2 : 2 ^ (64 - Lib.bitLen M) * 2 ^ (127 - lg Q).toNat * 2 ^ (lg P - 127).toNat * 2 ^ v = 2 ^ t * 2 ^ (127 - lg P).toNat * 2 ^ (lg Q - 127).toNat * 2 ^ u := by
      rw [← Nat.pow_add, ← Nat.pow_add, ← Nat.pow_add, ← Nat.pow_add, ← Nat.pow_add, ← Nat.pow_add, hu, hv, Nat.add_comm]
    unfold xM nt dt
    calc M * 2 ^ (64 - Lib.bitLen M) * (10 ^ Q.toNat * 2 ^ (127 - lg Q).toNat) * (10 ^ (-P).toNat * 2 ^ (lg P - 127).toNat) * 2 ^ v
        = d * (10 ^ j * 10 ^ Q.toNat * 10 ^ (-P).toNat) * (2 ^ (64 - Lib.bitLen M) * 2 ^ (127 - lg Q).toNat * 2 ^ (lg P - 127).toNat * 2 ^ v) := by
          generalize 2 ^ (64 - Lib.bitLen M) = a1
          rw [hd]
          generalize 10 ^ j = a0
          generalize 10 ^ Q.toNat = a2
          generalize 2 ^ (127 - lg Q).toNat = a3
          generalize 10 ^ (-P).toNat = a4
          generalize 2 ^ (lg P - 127).toNat = a5
          generalize 2 ^ v = a6
          simp only [Nat.mul_assoc, Nat.mul_comm, Nat.mul_left_comm]
      _ = d * (10 ^ P.toNat * 10 ^ (-Q).toNat) * (2 ^ t * 2 ^ (127 - lg P).toNat * 2 ^ (lg Q - 127).toNat * 2 ^ u) := by rw [e10, e2]
      _ = _ := by
          generalize 10 ^ P.toNat = a0
          generalize 10 ^ (-Q).toNat = a1
          generalize 2 ^ t = a2
          generalize 2 ^ (127 - lg P).toNat = a3
          generalize 2 ^ (lg Q - 127).toNat = a4
          generalize 2 ^ u = a5
          simp only [Nat.mul_assoc, Nat.mul_comm, Nat.mul_left_comm]
  generalize hY : d * 2 ^ t = y at *
  generalize hD : dt P * dt Q = D at *
  have hD0 : 0 < D := by rw [← hD]; exact Nat.mul_pos dp dq
  -- how great both sides are
  have a1 : 9223372036854775808 * 170141183460469231731687303715884105728 * D ≤ xM M * nt Q * dt P := by
    rw [← hD]
    calc _ = 9223372036854775808 * (170141183460469231731687303715884105728 * dt Q) * dt P := by simp only [Nat.mul_assoc, Nat.mul_comm, Nat.mul_left_comm]
      _ ≤ xM M * nt Q * dt P := Nat.mul_le_mul_right _ (Nat.mul_le_mul x0 q1)
  have a2 : xM M * nt Q * dt P < 18446744073709551616 * 340282366920938463463374607431768211456 * D := by
    rw [← hD]
    have q2' : nt Q ≤ 340282366920938463463374607431768211456 * dt Q := by omega
    calc xM M * nt Q * dt P ≤ xM M * (340282366920938463463374607431768211456 * dt Q) * dt P := Nat.mul_le_mul_right _ (Nat.mul_le_mul_left _ q2')
      _ < 18446744073709551616 * (340282366920938463463374607431768211456 * dt Q) * dt P := Nat.mul_lt_mul_of_pos_right (Nat.mul_lt_mul_of_pos_right x1 (by omega)) dp
      _ = _ := by simp only [Nat.mul_assoc, Nat.mul_comm, Nat.mul_left_comm]
  have c1 : 72057594037927936 * 170141183460469231731687303715884105728 * D ≤ y * nt P * dt Q := by
    rw [← hD]
    calc _ = 72057594037927936 * (170141183460469231731687303715884105728 * dt P) * dt Q := by simp only [Nat.mul_assoc]
      _ ≤ y * nt P * dt Q := Nat.mul_le_mul_right _ (Nat.mul_le_mul y0 p1)
  have c2 : y * nt P * dt Q < 144115188075855872 * 340282366920938463463374607431768211456 * D := by
    rw [← hD]
    have p2' : nt P ≤ 340282366920938463463374607431768211456 * dt P := by omega
    calc y * nt P * dt Q ≤ y * (340282366920938463463374607431768211456 * dt P) * dt Q := Nat.mul_le_mul_right _ (Nat.mul_le_mul_left _ p2')
      _ < 144115188075855872 * (340282366920938463463374607431768211456 * dt P) * dt Q := Nat.mul_lt_mul_of_pos_right (Nat.mul_lt_mul_of_pos_right y1 (by omega)) dq
      _ = _ := by simp only [Nat.mul_assoc]
  have hC : v + 4 ≤ u ∧ u ≤ v + 10 := by
    refine ⟨?_, ?_⟩
    · rcases Nat.lt_or_ge u (v + 4) with k | k
      · exfalso
        have h1 : 9223372036854775808 * 170141183460469231731687303715884105728 * D * 2 ^ v ≤ y * nt P * dt Q * 2 ^ u := by rw [← key]; exact Nat.mul_le_mul_right _ a1
        have h2 : y * nt P * dt Q * 2 ^ u ≤ y * nt P * dt Q * 2 ^ (v + 4) := Nat.mul_le_mul_left _ (Nat.pow_le_pow_right (by decide) (by omega))
        have h3 : y * nt P * dt Q * 2 ^ (v + 4) < 144115188075855872 * 340282366920938463463374607431768211456 * D * 2 ^ (v + 4) := Nat.mul_lt_mul_of_pos_right c2 (pow_pos2 _)
        have h4 : 144115188075855872 * 340282366920938463463374607431768211456 * D * 2 ^ (v + 4) = 2305843009213693952 * 340282366920938463463374607431768211456 * D * 2 ^ v := by
          rw [Nat.pow_add, Nat.mul_comm (2 ^ v), ← Nat.mul_assoc]
          congr 1
          omega
        have h5 : 9223372036854775808 * 170141183460469231731687303715884105728 * D * 2 ^ v < 2305843009213693952 * 340282366920938463463374607431768211456 * D * 2 ^ v := by omega
        have h6 := Nat.lt_of_mul_lt_mul_right h5
        omega
      · exact k
    · rcases Nat.lt_or_ge (v + 10) u with k | k
      · exfalso
        have h1 : 72057594037927936 * 170141183460469231731687303715884105728 * D * 2 ^ (v + 10) ≤ y * nt P * dt Q * 2 ^ (v + 10) := Nat.mul_le_mul_right _ c1
        have h2 : y * nt P * dt Q * 2 ^ (v + 10) ≤ y * nt P * dt Q * 2 ^ u := Nat.mul_le_mul_left _ (Nat.pow_le_pow_right (by decide) (by omega))
        have h3 : xM M * nt Q * dt P * 2 ^ v < 18446744073709551616 * 340282366920938463463374607431768211456 * D * 2 ^ v := Nat.mul_lt_mul_of_pos_right a2 (pow_pos2 _)
        have h4 : 72057594037927936 * 170141183460469231731687303715884105728 * D * 2 ^ (v + 10) = 73786976294838206464 * 170141183460469231731687303715884105728 * D * 2 ^ v := by
          rw [Nat.pow_add, Nat.mul_comm (2 ^ v), ← Nat.mul_assoc]
          congr 1
          omega
        rw [key] at h3
        have h5 : 73786976294838206464 * 170141183460469231731687303715884105728 * D * 2 ^ v < 18446744073709551616 * 340282366920938463463374607431768211456 * D * 2 ^ v := by omega
        have h6 := Nat.lt_of_mul_lt_mul_right h5
        omega
      · exact k
  obtain ⟨C, hCu⟩ : ∃ C, u = v + C := ⟨u - v, by omega⟩
  have key2 : xM M * nt Q * dt P = 2 ^ C * y * nt P * dt Q := by
    refine Nat.eq_of_mul_eq_mul_right (pow_pos2 v) ?_
    rw [key, hCu, Nat.pow_add]
    generalize 2 ^ v = a
    generalize 2 ^ C = b
    simp only [Nat.mul_assoc, Nat.mul_comm, Nat.mul_left_comm]
  have N := near_eq (c := 2 ^ C) (N := nt P) (D := dt P) (Y := 2 ^ 57) (s := 8) (y := y) dp (cert_at hP0 hP1 (by omega) (by omega)) (by omega) y1
  intro h k1 k2
  have m1 := Nat.mul_lt_mul_of_pos_right k1 dp
  have m2 := Nat.mul_lt_mul_of_pos_right k2 dp
  rw [Nat.add_mul, key2] at m1 m2
  have g1 : h * (2 ^ 8 * (340282366920938463463374607431768211456 * dt Q)) * dt P = h * (2 ^ 8 * (340282366920938463463374607431768211456 * dt P)) * dt Q := by
    generalize 340282366920938463463374607431768211456 = w
    generalize 2 ^ 8 = w2
    simp only [Nat.mul_assoc, Nat.mul_comm, Nat.mul_left_comm]
  have g2 : 36893488147419103232 * dt Q * dt P = 36893488147419103232 * dt P * dt Q := by rw [Nat.mul_right_comm]
  rw [g1, g2, ← Nat.add_mul] at m1 m2
  have e := N h (Nat.lt_of_mul_lt_mul_right m1) (Nat.lt_of_mul_lt_mul_right m2)
  refine Nat.eq_of_mul_eq_mul_right dp ?_
  rw [key2, g1, e]
end Rb
end Go.Proofs.YtciigfaojmpoiaaGreatDoor
