/- The float nearest to a number is the one that it rounds to. Products and quotients of floats: the float that the exact number rounds to. Quotients of floats. -/
import Derived.Test.YtciigfaojmpoiaaGreatDoorRbC
import Derived.Test.YtciigfaojmpoiaaGreatDoorIeX
namespace Go.Proofs.YtciigfaojmpoiaaGreatDoor
open Go Go.RowKit
set_option linter.all false
namespace Rb
open Us P10
open Ft hiding V expo
open Ie (V V_lt V_le V_inj)
set_option exponentiation.threshold 40000
/-- to the nearest whole number, the even one of two -/
theorem cut_tie (n k : Nat) : lo (Ieee.Toward.even.cut false n k % 2) (2 * Ieee.Toward.even.cut false n k * 2 ^ k) (2 * n + 2 ^ k) ∧ lo (Ieee.Toward.even.cut false n k % 2) (2 * n) ((2 * Ieee.Toward.even.cut false n k + 1) * 2 ^ k) := by
  unfold Ieee.Toward.cut
  dsimp only
  rw [Nat.one_shiftLeft]
  rcases Nat.le_total k (n.log2 + 2) with g | g
  · rw [Nat.min_eq_left g]
    have hG : 0 < 2 ^ k := pow_pos2 k
    have hdm := Nat.div_add_mod n (2 ^ k)
    have hr := Nat.mod_lt n hG
    generalize 2 ^ k = G at *
    generalize n / G = low at *
    generalize n % G = rest at *
    obtain ⟨mo, hmo⟩ : ∃ mo : Bool, (decide (G < 2 * rest) || (G == 2 * rest && low % 2 == 1)) = mo := ⟨_, rfl⟩
    rw [hmo]
    have hlG : G * low = low * G := Nat.mul_comm ..
    unfold lo
    cases mo
    · simp only [Bool.or_eq_false_iff, Bool.and_eq_false_iff, decide_eq_false_iff_not, beq_eq_false_iff_ne] at hmo
      rw [show (false : Bool).toNat = 0 from rfl, Nat.add_zero, Nat.add_mul, Nat.one_mul, Nat.mul_assoc]
      generalize low * G = LG at *
      refine ⟨?_, ?_⟩
      · split <;> omega
      · split <;> omega
    · simp only [Bool.or_eq_true, Bool.and_eq_true, decide_eq_true_eq, beq_iff_eq] at hmo
      rw [show (true : Bool).toNat = 1 from rfl, Nat.mul_add, Nat.add_mul, Nat.add_mul, Nat.add_mul, Nat.one_mul, Nat.mul_assoc]
      generalize low * G = LG at *
      refine ⟨?_, ?_⟩
      · split <;> omega
      · split <;> omega
  · rw [Nat.min_eq_right g]
    have hn : n < 2 ^ (n.log2 + 1) := by
      rcases Nat.eq_zero_or_pos n with h | h
      · rw [h]; exact pow_pos2 _
      · exact (Nat.log2_lt (by omega)).1 (by omega)
    have hp : 2 ^ (n.log2 + 2) = 2 ^ (n.log2 + 1) * 2 := Nat.pow_succ ..
    have hle : 2 ^ (n.log2 + 2) ≤ 2 ^ k := Nat.pow_le_pow_right (by decide) g
    have hlt : n < 2 ^ (n.log2 + 2) := by omega
    rw [Nat.div_eq_of_lt hlt, Nat.mod_eq_of_lt hlt]
    have hle2 : 2 * n < 2 ^ (n.log2 + 2) := by omega
    have hmo : (decide (2 ^ (n.log2 + 2) < 2 * n) || (2 ^ (n.log2 + 2) == 2 * n && 0 % 2 == 1)) = false := by
      rw [decide_eq_false (by omega : ¬ 2 ^ (n.log2 + 2) < 2 * n)]
      simp
    rw [hmo]
    unfold lo
    rw [show 0 + (false : Bool).toNat = 0 from rfl, if_pos (by decide), if_pos (by decide)]
    refine ⟨?_, ?_⟩
    · rw [Nat.mul_zero, Nat.zero_mul]; exact Nat.zero_le _
    · rw [Nat.mul_zero, Nat.zero_add, Nat.one_mul]; omega
theorem lo_le' {a b : Nat} (h : a ≤ b) : lo (4503599627370496 % 2) a b := by unfold lo; rw [if_pos (by decide)]; exact h
/-- the nearest float: the number rounds to it -/
theorem nearest_inv {mag n d K : Nat} {place : Int} (hm : 0 < mag) (hd : 0 < d) (hK : 0 ≤ place + 1074 + K) (hv : n * 2 ^ K = mag * 2 ^ (place + 1074 + K).toNat * d) (hn : d < 2 * n) :
    ∃ r, 0 < r ∧ Inv r n d ∧ Ieee.double.nearest false mag place = min r 9218868437227405312 := by
  unfold Ieee.Format.nearest
  rw [if_neg (by omega), Ie.d_least, Ie.d_bin, Ie.d_inf]
  rw [show ((Ieee.double.fractionBits : Nat) : Int) = 52 from rfl]
  dsimp only
  obtain ⟨g, hg⟩ : ∃ g : Nat, max (place + (mag.log2 : Int) - 52) (-1074) = (g : Int) - 1074 := ⟨(max (place + (mag.log2 : Int) - 52) (-1074) + 1074).toNat, by omega⟩
  rw [hg]
  rw [show ((g : Int) - 1074 - -1074).toNat = g by omega]
  have hl0 : 2 ^ mag.log2 ≤ mag := (Nat.le_log2 (by omega)).1 (Nat.le_refl _)
  have hl1 : mag < 2 ^ (mag.log2 + 1) := (Nat.log2_lt (by omega)).1 (Nat.lt_succ_self _)
  obtain ⟨k, hk⟩ : ∃ k, ((g : Int) - 1074 - place).toNat = k := ⟨_, rfl⟩
  obtain ⟨j, hj⟩ : ∃ j, (place - ((g : Int) - 1074)).toNat = j := ⟨_, rfl⟩
  rw [hk, hj, Nat.shiftLeft_eq]
  obtain ⟨N, hN⟩ : ∃ N, mag * 2 ^ j = N := ⟨_, rfl⟩
  rw [hN]
  obtain ⟨c1, c2⟩ := cut_tie N k
  generalize hmq : Ieee.Toward.even.cut false N k = m at *
  have hk2 := pow_pos2 k
  -- the number: N / 2^k * 2^g
  have hval : n * (4 * 2 ^ k) = 4 * N * (2 ^ g * d) := by
    have ep : 2 ^ (place + 1074 + (K : Int)).toNat * 2 ^ k = 2 ^ j * 2 ^ g * 2 ^ K := by
      rw [← Nat.pow_add, ← Nat.pow_add, ← Nat.pow_add]
      exact congrArg (2 ^ ·) (by omega)
    have e : n * (4 * 2 ^ k) * 2 ^ K = 4 * N * (2 ^ g * d) * 2 ^ K := by
      calc n * (4 * 2 ^ k) * 2 ^ K = n * 2 ^ K * (4 * 2 ^ k) := Nat.mul_right_comm ..
        _ = mag * 2 ^ (place + 1074 + K).toNat * d * (4 * 2 ^ k) := by rw [hv]
        _ = 4 * mag * d * (2 ^ (place + 1074 + K).toNat * 2 ^ k) := by
            generalize 2 ^ (place + 1074 + K).toNat = a
            generalize 2 ^ k = q
            simp only [Nat.mul_assoc, Nat.mul_comm, Nat.mul_left_comm]
        _ = 4 * mag * d * (2 ^ j * 2 ^ g * 2 ^ K) := by rw [ep]
        _ = 4 * N * (2 ^ g * d) * 2 ^ K := by
            rw [← hN]
            generalize 2 ^ j = a
            generalize 2 ^ g = a2
            generalize 2 ^ K = a3
            simp only [Nat.mul_assoc, Nat.mul_comm, Nat.mul_left_comm]
    exact Nat.eq_of_mul_eq_mul_right (pow_pos2 K) e
  have t1 : lo (m % 2) (4 * m * 2 ^ k) (4 * N + 2 * 2 ^ k) := by
    unfold lo at c1 ⊢
    have : 4 * m * 2 ^ k = 2 * (2 * m * 2 ^ k) := by rw [← Nat.mul_assoc, ← Nat.mul_assoc]
    split at c1 <;> rename_i q
    · rw [if_pos q]; omega
    · rw [if_neg q]; omega
  have t2 : lo (m % 2) (4 * N) ((4 * m + 2) * 2 ^ k) := by
    unfold lo at c2 ⊢
    have : (4 * m + 2) * 2 ^ k = 2 * ((2 * m + 1) * 2 ^ k) := by rw [← Nat.mul_assoc]; congr 1; omega
    split at c2 <;> rename_i q
    · rw [if_pos q]; omega
    · rw [if_neg q]; omega
  have hN1 : N < 9007199254740992 * 2 ^ k := by
    rw [← hN, show (9007199254740992 : Nat) = 2 ^ 53 by rfl, ← Nat.pow_add]
    calc mag * 2 ^ j < 2 ^ (mag.log2 + 1) * 2 ^ j := Nat.mul_lt_mul_of_pos_right hl1 (pow_pos2 _)
      _ = 2 ^ (mag.log2 + 1 + j) := by rw [← Nat.pow_add]
      _ ≤ 2 ^ (53 + k) := Nat.pow_le_pow_right (by decide) (by omega)
  have hN0 : 0 < g → 4503599627370496 * 2 ^ k ≤ N := fun h => by
    rw [← hN, show (4503599627370496 : Nat) = 2 ^ 52 by rfl, ← Nat.pow_add]
    calc 2 ^ (52 + k) ≤ 2 ^ (mag.log2 + j) := Nat.pow_le_pow_right (by decide) (by omega)
      _ = 2 ^ mag.log2 * 2 ^ j := by rw [Nat.pow_add]
      _ ≤ mag * 2 ^ j := Nat.mul_le_mul_right _ hl0
  have hmlo : 0 < g → 4503599627370496 ≤ m := fun h => by
    have h1 := hN0 h
    have h2 := lo_le c2
    have h3 : (2 * 4503599627370496) * 2 ^ k ≤ (2 * m + 1) * 2 ^ k := by rw [Nat.mul_assoc]; omega
    have := (mul_le_q hk2).1 h3
    omega
  have hmhi : m ≤ 9007199254740992 := by
    have h1 := lo_le c1
    have h3 : 2 * m * 2 ^ k < (2 * 9007199254740992 + 1) * 2 ^ k := by rw [Nat.add_mul (2 * 9007199254740992), Nat.one_mul, Nat.mul_assoc 2 9007199254740992]; omega
    have := (mul_lt_q hk2).1 h3
    omega
  have hr : Inv (g * 4503599627370496 + m) n d ∧ 0 < g * 4503599627370496 + m := by
    rcases Nat.lt_or_ge m 9007199254740992 with c | c
    · have hm0 : 0 < m := by
        rcases Nat.eq_zero_or_pos m with z | z
        · exfalso
          have hg0 : g = 0 := by
            rcases Nat.eq_zero_or_pos g with y | y
            · exact y
            · have := hmlo y; omega
          subst hg0
          rw [Nat.pow_zero, Nat.one_mul] at hval
          have h2 := lo_le c2
          rw [z] at h2
          have h3 : d * (2 * 2 ^ k) < 2 * n * (2 * 2 ^ k) := Nat.mul_lt_mul_of_pos_right hn (by omega)
          have h4 : 2 * n * (2 * 2 ^ k) = 4 * N * d := by rw [← hval, show 4 * 2 ^ k = 2 * (2 * 2 ^ k) by omega, Nat.mul_comm 2 n, Nat.mul_assoc]
          rw [h4, Nat.mul_comm (4 * N)] at h3
          have := Nat.lt_of_mul_lt_mul_left h3
          omega
        · exact z
      refine ⟨round_inv0 hk2 hd t1 t2 hval hm0 c ?_ ?_, by omega⟩
      · rcases Nat.eq_zero_or_pos g with y | y
        · exact .inl y
        · exact .inr (hmlo y)
      · intro hm52 hg0
        have := hN0 hg0
        rw [hm52, Nat.sub_mul, Nat.mul_assoc]
        omega
    · have hm53 : m = 9007199254740992 := by omega
      have q1 := lo_le t1
      rw [hm53] at q1
      have := round_inv0 (n := n) (d := d) (X := 4 * N) (Q := 2 ^ k * 2) (g := g + 1) (m := 4503599627370496) (by omega) hd (lo_le' (by rw [Nat.mul_comm (2 ^ k) 2, ← Nat.mul_assoc]; omega)) (lo_le' (by rw [Nat.mul_comm (2 ^ k) 2, ← Nat.mul_assoc]; omega)) (by
        rw [Nat.pow_succ, show 4 * (2 ^ k * 2) = 4 * 2 ^ k * 2 by omega, ← Nat.mul_assoc, hval]
        generalize 2 ^ g = a
        simp only [Nat.mul_assoc, Nat.mul_comm, Nat.mul_left_comm]) (by omega) (by omega) (.inr (Nat.le_refl _)) (fun _ _ => by
        rw [Nat.mul_comm (2 ^ k) 2, ← Nat.mul_assoc]
        omega)
      rw [hm53]
      rw [show (g + 1) * 4503599627370496 + 4503599627370496 = g * 4503599627370496 + 9007199254740992 by omega] at this
      exact ⟨this, by omega⟩
  have wf1 : ∀ r, Ieee.double.word false r = r := fun r => rfl
  refine ⟨g * 4503599627370496 + m, hr.2, hr.1, ?_⟩
  rw [wf1]
/-- THE NEAREST FLOAT IS THE ONE THAT THE NUMBER ROUNDS TO -/
theorem nearest_right {mag n d b K : Nat} {place : Int} (hm : 0 < mag) (hd : 0 < d) (hK : 0 ≤ place + 1074 + K) (hv : n * 2 ^ K = mag * 2 ^ (place + 1074 + K).toNat * d) (hb0 : 0 < b) (hb1 : b < 9218868437227405312) (hI : Inv b n d) :
    Ieee.double.nearest false mag place = b := by
  obtain ⟨r, r0, hr, e⟩ := nearest_inv hm hd hK hv (inv_pos hb0 hd hI)
  rw [e, inv_uniq r0 hb0 hd hr hI, Nat.min_eq_left (by omega)]
theorem cut_sign (s : Bool) : Ieee.Toward.even.cut s = Ieee.Toward.even.cut false := rfl
theorem wf0 (r : Nat) : Ieee.double.word false r = r := rfl
/-- the sign apart -/
theorem nearest_sign (s : Bool) (mag : Nat) (place : Int) : Ieee.double.nearest s mag place = Ieee.double.word s (Ieee.double.nearest false mag place) := by
  unfold Ieee.Format.nearest
  dsimp only
  rw [cut_sign s]
  by_cases h : mag = 0
  · rw [if_pos h, if_pos h, wf0]
  · rw [if_neg h, if_neg h, wf0]
end Rb
end Go.Proofs.YtciigfaojmpoiaaGreatDoor
namespace Go.Proofs.YtciigfaojmpoiaaGreatDoor
open Go Go.RowKit
set_option linter.all false
namespace Rb
open Us P10
open Ft hiding V expo
open Ie (V V_lt V_le V_inj read_word)
set_option exponentiation.threshold 40000
theorem wf (r : Nat) : Ieee.double.word false r = r := rfl
/-- a product -/
theorem mul_right (s : Bool) {x y A B b : Nat} (hx : x < 9218868437227405312) (hy : y < 9218868437227405312) (vx : V x = A * 2 ^ 1074) (vy : V y = B * 2 ^ 1074) (hA : 0 < A) (hB : 0 < B) (hb0 : 0 < b) (hb1 : b < 9218868437227405312)
    (hI : Inv b (A * B * 2 ^ 1074) 1) : floatBits .mul .f64 (Ieee.double.word s x) y = some (Ieee.double.word s b) := by
  obtain ⟨m, k, e1, e2⟩ := read_word s x hx
  obtain ⟨n, l, f1, f2⟩ := read_word false y hy
  rw [wf] at f1
  show Ieee.double.mul (Ieee.double.word s x) y = some (Ieee.double.word s b)
  unfold Ieee.Format.mul
  rw [e1, f1]
  show some (Ieee.double.nearest (s ^^ false) (m * n) ((k : Int) - 1074 + ((l : Int) - 1074))) = _
  rw [Bool.xor_false, nearest_sign]
  congr 2
  have hm : 0 < m := by
    rcases Nat.eq_zero_or_pos m with z | z
    · rw [z, Nat.zero_mul, vx] at e2
      have := Nat.mul_pos hA (pow_pos2 1074)
      omega
    · exact z
  have hn : 0 < n := by
    rcases Nat.eq_zero_or_pos n with z | z
    · rw [z, Nat.zero_mul, vy] at f2
      have := Nat.mul_pos hB (pow_pos2 1074)
      omega
    · exact z
  refine nearest_right (K := 1074) (n := A * B * 2 ^ 1074) (d := 1) (Nat.mul_pos hm hn) (by omega) (by omega) ?_ hb0 hb1 hI
  rw [Nat.mul_one, show ((k : Int) - 1074 + ((l : Int) - 1074) + 1074 + ((1074 : Nat) : Int)).toNat = k + l by omega, Nat.pow_add]
  calc A * B * 2 ^ 1074 * 2 ^ 1074 = A * 2 ^ 1074 * (B * 2 ^ 1074) := by
        generalize 2 ^ 1074 = T
        simp only [Nat.mul_assoc, Nat.mul_comm, Nat.mul_left_comm]
    _ = m * 2 ^ k * (n * 2 ^ l) := by rw [e2, f2, vx, vy]
    _ = _ := by
        generalize 2 ^ k = a
        generalize 2 ^ l = c
        simp only [Nat.mul_assoc, Nat.mul_comm, Nat.mul_left_comm]
/-- a whole number as a float -/
theorem int_right {M b : Nat} (hM : 0 < M) (hb0 : 0 < b) (hb1 : b < 9218868437227405312) (hI : Inv b (M * 2 ^ 1074) 1) : floatOfInt .f64 (M : Int) = b := by
  have foi : ∀ z : Int, floatOfInt .f64 z = Ieee.double.write (.number (decide (z < 0)) z.natAbs 0) := fun z => rfl
  rw [foi, show decide ((M : Int) < 0) = false by rw [decide_eq_false_iff_not]; omega, Int.natAbs_natCast]
  refine nearest_right (K := 0) (n := M * 2 ^ 1074) (d := 1) hM (by omega) (by omega) ?_ hb0 hb1 hI
  rw [Nat.mul_one, Nat.mul_one]
  rfl
/-- a quotient with a bit for what is cut off rounds as the exact one: N / D in units of U, where the middles are whole -/
theorem sticky {b N D U : Nat} (hD : 0 < D) (hU : 0 < U) (h : Inv b (N * U) D) (h1 : 2 * U ∣ V (b - 1) + V b ∨ V (b - 1) + V b < 2 * (N / D) * U) (h2 : 2 * U ∣ V b + V (b + 1)) : Inv b ((2 * (N / D) + (if N % D = 0 then 0 else 1)) * U) 2 := by
  have hdm := Nat.div_add_mod N D
  have hr := Nat.mod_lt N hD
  obtain ⟨i1, i2⟩ := h
  generalize N / D = q at *
  generalize N % D = r at *
  obtain ⟨s, hs⟩ : ∃ s, (if r = 0 then 0 else 1) = s := ⟨_, rfl⟩
  have hs1 : (r = 0 ∧ s = 0) ∨ (0 < r ∧ s = 1) := by
    rcases Nat.eq_zero_or_pos r with z | z
    · left; rw [if_pos z] at hs; exact ⟨z, hs.symm⟩
    · right; rw [if_neg (by omega)] at hs; exact ⟨z, hs.symm⟩
  rw [hs]
  -- a whole number w of units against the number
  have cmp1 : ∀ w o, lo o (w * (2 * U) * D) (2 * (N * U)) → lo o (w * (2 * U) * 2) (2 * ((2 * q + s) * U)) := by
    intro w o hw
    have e1 : w * (2 * U) * D = 2 * (w * D) * U := by simp only [Nat.mul_assoc, Nat.mul_comm, Nat.mul_left_comm]
    have e2 : 2 * (N * U) = 2 * N * U := (Nat.mul_assoc ..).symm
    have e3 : w * (2 * U) * 2 = 4 * w * U := by rw [show (4 : Nat) = 2 * 2 from rfl]; simp only [Nat.mul_assoc, Nat.mul_comm, Nat.mul_left_comm]
    have e4 : 2 * ((2 * q + s) * U) = 2 * (2 * q + s) * U := (Nat.mul_assoc ..).symm
    rw [e1, e2, lo_mul hU] at hw
    rw [e3, e4, lo_mul hU]
    have hwq : w ≤ q := by
      have h3 : w * D ≤ N := by have := lo_le hw; omega
      have h4 : w * D < (q + 1) * D := by rw [Nat.add_mul, Nat.one_mul, Nat.mul_comm q]; omega
      have := (mul_lt_q hD).1 h4
      omega
    unfold lo at hw ⊢
    split at hw <;> rename_i g
    · rw [if_pos g]; omega
    · rw [if_neg g]
      rcases hs1 with ⟨k1, k2⟩ | ⟨k1, k2⟩
      · have : w ≠ q := fun h => by rw [h, Nat.mul_comm q] at hw; omega
        omega
      · omega
  have cmp2 : ∀ w o, lo o (2 * (N * U)) (w * (2 * U) * D) → lo o (2 * ((2 * q + s) * U)) (w * (2 * U) * 2) := by
    intro w o hw
    have e1 : w * (2 * U) * D = 2 * (w * D) * U := by simp only [Nat.mul_assoc, Nat.mul_comm, Nat.mul_left_comm]
    have e2 : 2 * (N * U) = 2 * N * U := (Nat.mul_assoc ..).symm
    have e3 : w * (2 * U) * 2 = 4 * w * U := by rw [show (4 : Nat) = 2 * 2 from rfl]; simp only [Nat.mul_assoc, Nat.mul_comm, Nat.mul_left_comm]
    have e4 : 2 * ((2 * q + s) * U) = 2 * (2 * q + s) * U := (Nat.mul_assoc ..).symm
    rw [e1, e2, lo_mul hU] at hw
    rw [e3, e4, lo_mul hU]
    have hqw : q ≤ w := by
      have h3 : N ≤ w * D := by have := lo_le hw; omega
      have h4 : q * D ≤ w * D := by rw [Nat.mul_comm q]; omega
      exact (mul_le_q hD).1 h4
    have hne : 0 < r → q ≠ w := fun k h => by
      have h3 : N ≤ w * D := by have := lo_le hw; omega
      rw [← h, Nat.mul_comm q] at h3
      omega
    unfold lo at hw ⊢
    split at hw <;> rename_i g
    · rw [if_pos g]
      rcases hs1 with ⟨k1, k2⟩ | ⟨k1, k2⟩
      · omega
      · have := hne k1; omega
    · rw [if_neg g]
      rcases hs1 with ⟨k1, k2⟩ | ⟨k1, k2⟩
      · have : q ≠ w := fun h => by rw [← h, Nat.mul_comm q] at hw; omega
        omega
      · have := hne k1; omega
  refine ⟨?_, ?_⟩
  · rcases h1 with ⟨w, hw⟩ | h1
    · rw [hw, Nat.mul_comm (2 * U) w] at i1 ⊢
      exact cmp1 w _ i1
    · apply lo_lt
      have h3 : (2 * q + s) * U = 2 * q * U + s * U := Nat.add_mul ..
      omega
  · obtain ⟨w, hw⟩ := h2
    rw [hw, Nat.mul_comm (2 * U) w] at i2 ⊢
    exact cmp2 w _ i2
end Rb
end Go.Proofs.YtciigfaojmpoiaaGreatDoor
namespace Go.Proofs.YtciigfaojmpoiaaGreatDoor
open Go Go.RowKit
set_option linter.all false
namespace Rb
open Us P10
open Ft hiding V expo
open Ie (V V_lt V_le V_inj read_norm)
set_option exponentiation.threshold 40000
/-- a float that is a whole number: its parts -/
theorem whole_parts (s : Bool) {x A : Nat} (hx : x < 9218868437227405312) (vx : V x = A * 2 ^ 1074) (hA : 0 < A) : ∃ m k : Nat, Ieee.double.read (Ieee.double.word s x) = .number s m ((k : Int) - 1074) ∧ m * 2 ^ k = A * 2 ^ 1074 ∧ 4503599627370496 ≤ m ∧ m < 9007199254740992 := by
  have hge : 4503599627370496 ≤ x := by
    rcases Nat.lt_or_ge x 4503599627370496 with g | g
    · exfalso
      rw [V_sub (by omega)] at vx
      have h1 : 2 ^ 1074 ≤ A * 2 ^ 1074 := Nat.le_mul_of_pos_left _ hA
      have h2 : (4503599627370496 : Nat) ≤ 2 ^ 1074 := by decide +kernel
      omega
    · exact g
  have e := read_norm s x hge hx
  refine ⟨_, _, e, ?_, by omega, by omega⟩
  rw [← vx, V_norm hge]
set_option maxHeartbeats 1000000 in
/-- a quotient -/
theorem div_right (s : Bool) {x y A B b : Nat} (hx : x < 9218868437227405312) (hy : y < 9218868437227405312) (vx : V x = A * 2 ^ 1074) (vy : V y = B * 2 ^ 1074) (hA : 0 < A) (hB : 0 < B) (hB2 : B < 2 ^ 80) (hb0 : 0 < b) (hb1 : b < 9218868437227405312)
    (hI : Inv b (A * 2 ^ 1074) B) : floatBits .quo .f64 (Ieee.double.word s x) y = some (Ieee.double.word s b) := by
  obtain ⟨m, k, e1, e2, m0, m1⟩ := whole_parts s hx vx hA
  obtain ⟨n, l, f1, f2, n0, n1⟩ := whole_parts false hy vy hB
  rw [wf] at f1
  have hml : m.log2 = 52 := by
    rw [Nat.log2_eq_iff (by omega)]
    exact ⟨m0, m1⟩
  have hnl : n.log2 = 52 := by
    rw [Nat.log2_eq_iff (by omega)]
    exact ⟨n0, n1⟩
  -- the places
  have hk : 1022 ≤ k := by
    rcases Nat.lt_or_ge k 1022 with g | g
    · exfalso
      have h1 : m * 2 ^ k < 2 ^ 53 * 2 ^ k := Nat.mul_lt_mul_of_pos_right m1 (pow_pos2 _)
      have h2 : 2 ^ 53 * 2 ^ k ≤ 2 ^ 1074 := by rw [← Nat.pow_add]; exact Nat.pow_le_pow_right (by decide) (by omega)
      have h3 : 2 ^ 1074 ≤ A * 2 ^ 1074 := Nat.le_mul_of_pos_left _ hA
      omega
    · exact g
  have hl : l < 1154 := by
    rcases Nat.lt_or_ge l 1154 with g | g
    · exact g
    · exfalso
      have h1 : 1 * 2 ^ l ≤ n * 2 ^ l := Nat.mul_le_mul_right _ (by omega)
      have h2 : 2 ^ 1154 ≤ 2 ^ l := Nat.pow_le_pow_right (by decide) g
      have h3 : B * 2 ^ 1074 < 2 ^ 80 * 2 ^ 1074 := Nat.mul_lt_mul_of_pos_right hB2 (pow_pos2 _)
      rw [← Nat.pow_add, show 80 + 1074 = 1154 from rfl] at h3
      rw [Nat.one_mul] at h1
      omega
  obtain ⟨w, hw⟩ : ∃ w : Nat, (w : Int) = (k : Int) - l - 54 + 1074 := ⟨((k : Int) - l - 54 + 1074).toNat, by omega⟩
  have hU := pow_pos2 w
  have hn : 0 < n := by omega
  -- the same number by the parts
  have hI2 : Inv b (m * 2 ^ 54 * 2 ^ w) n := by
    refine inv_same hB hn ?_ hI
    have e : A * 2 ^ 1074 * n * 2 ^ 1074 = m * 2 ^ 54 * 2 ^ w * B * 2 ^ 1074 := by
      calc A * 2 ^ 1074 * n * 2 ^ 1074 = m * 2 ^ k * n * 2 ^ 1074 := by rw [e2]
        _ = m * n * (2 ^ k * 2 ^ 1074) := by
            generalize 2 ^ k = a
            generalize 2 ^ 1074 = c
            simp only [Nat.mul_assoc, Nat.mul_comm, Nat.mul_left_comm]
        _ = m * n * (2 ^ 54 * 2 ^ w * 2 ^ l) := by
            have : 2 ^ k * 2 ^ 1074 = 2 ^ 54 * 2 ^ w * 2 ^ l := by
              rw [← Nat.pow_add, ← Nat.pow_add, ← Nat.pow_add]
              exact congrArg (2 ^ ·) (by omega)
            rw [this]
        _ = m * 2 ^ 54 * 2 ^ w * (n * 2 ^ l) := by
            generalize 2 ^ w = a
            generalize 2 ^ l = c
            generalize 2 ^ 54 = f
            simp only [Nat.mul_assoc, Nat.mul_comm, Nat.mul_left_comm]
        _ = m * 2 ^ 54 * 2 ^ w * (B * 2 ^ 1074) := by rw [f2]
        _ = _ := (Nat.mul_assoc ..).symm
    exact Nat.eq_of_mul_eq_mul_right (pow_pos2 1074) e
  have hq : 9007199254740992 ≤ m * 2 ^ 54 / n := by
    rw [Nat.le_div_iff_mul_le hn]
    rw [show (2 : Nat) ^ 54 = 18014398509481984 from rfl]
    have a0 := m0
    have a1 := n1
    clear hI hI2 e2 f2 vx vy hw hU hB2
    omega
  -- the float is a normal one
  have hup : 2 * (m * 2 ^ 54 / n) * 2 ^ w ≤ V b + V (b + 1) := by
    have h1 := lo_le hI2.2
    have h2 : m * 2 ^ 54 / n * n ≤ m * 2 ^ 54 := Nat.div_mul_le_self _ _
    have h3 : 2 * (m * 2 ^ 54 / n) * 2 ^ w * n ≤ (V b + V (b + 1)) * n := by
      refine Nat.le_trans ?_ h1
      calc 2 * (m * 2 ^ 54 / n) * 2 ^ w * n = 2 * (m * 2 ^ 54 / n * n * 2 ^ w) := by
            generalize m * 2 ^ 54 / n = q
            generalize 2 ^ w = a
            simp only [Nat.mul_assoc, Nat.mul_comm, Nat.mul_left_comm]
        _ ≤ 2 * (m * 2 ^ 54 * 2 ^ w) := Nat.mul_le_mul_left _ (Nat.mul_le_mul_right _ h2)
    exact Nat.le_of_mul_le_mul_right h3 hn
  generalize hqq : m * 2 ^ 54 / n = q at *
  have hbig : 18014398509481984 * 2 ^ w ≤ V b + V (b + 1) := Nat.le_trans (Nat.mul_le_mul_right _ (by omega)) hup
  have hb52 : 4503599627370496 ≤ b := by
    rcases Nat.lt_or_ge b 4503599627370496 with g | g
    · exfalso
      rw [V_sub (by omega), V_sub (by omega)] at hbig
      have : 18014398509481984 * 1 ≤ 18014398509481984 * 2 ^ w := Nat.mul_le_mul_left _ hU
      omega
    · exact g
  obtain ⟨g, hg⟩ : ∃ g, b / 4503599627370496 = g + 1 := ⟨b / 4503599627370496 - 1, by omega⟩
  obtain ⟨mb, hmb⟩ : ∃ mb, 4503599627370496 + b % 4503599627370496 = mb := ⟨_, rfl⟩
  have hbe : b = g * 4503599627370496 + mb := by omega
  obtain ⟨r1, r2, r3⟩ := mids_r (g := g) (m := mb) (by omega) (by omega) (.inr (by omega))
  rw [← hbe] at r1 r2 r3
  have hwg : w < g := by
    rcases Nat.lt_or_ge w g with c | c
    · exact c
    · exfalso
      rw [r1] at hbig
      have h1 : (2 * mb + 1) * 2 ^ g ≤ (2 * mb + 1) * 2 ^ w := Nat.mul_le_mul_left _ (Nat.pow_le_pow_right (by decide) c)
      have h2 := (mul_le_q hU).1 (Nat.le_trans hbig h1)
      omega
  have d2 : ∀ c, w + 1 ≤ c → 2 * 2 ^ w ∣ 2 ^ c := fun c hc => by
    rw [← Nat.pow_succ']
    exact Nat.pow_dvd_pow 2 hc
  have st := sticky (b := b) (N := m * 2 ^ 54) (D := n) (U := 2 ^ w) hn hU hI2 (by
    by_cases ed : mb = 4503599627370496 ∧ 0 < g
    · have r3 := r3 ed
      obtain ⟨j, hj⟩ : ∃ j, g = j + 1 := ⟨g - 1, by omega⟩
      have hV : V (b - 1) + V b = 18014398509481983 * 2 ^ j := by
        rw [hj, ed.1, Nat.pow_succ] at r3
        generalize 2 ^ j = T at *
        omega
      by_cases c : w + 1 ≤ j
      · left
        rw [hV]
        exact Nat.dvd_trans (d2 j c) (Nat.dvd_mul_left _ _)
      · right
        rw [hV, hqq, show j = w by omega]
        exact Nat.mul_lt_mul_of_pos_right (by omega) hU
    · left
      rw [r2 ed]
      exact Nat.dvd_trans (d2 g hwg) (Nat.dvd_mul_left _ _)) (by rw [r1]; exact Nat.dvd_trans (d2 g hwg) (Nat.dvd_mul_left _ _))
  rw [hqq] at st
  show Ieee.double.div (Ieee.double.word s x) y = some (Ieee.double.word s b)
  unfold Ieee.Format.div
  rw [e1, f1]
  unfold Ieee.Datum.quotient
  dsimp only
  rw [if_neg (by omega : ¬ n = 0), hml, hnl]
  rw [show (Ieee.double.fractionBits + 2 + 52 - 52 : Nat) = 54 from rfl, Nat.shiftLeft_eq, hqq]
  show some (Ieee.double.nearest (s ^^ false) _ _) = _
  rw [Bool.xor_false, nearest_sign]
  congr 2
  have hst : (m * 2 ^ 54 % n != 0).toNat = if m * 2 ^ 54 % n = 0 then 0 else 1 := by
    by_cases c : m * 2 ^ 54 % n = 0
    · rw [if_pos c, c]; rfl
    · rw [if_neg c, show (m * 2 ^ 54 % n != 0) = true by rw [bne_iff_ne]; exact c]; rfl
  rw [hst]
  refine nearest_right (K := 1) (d := 2) (n := (2 * q + if m * 2 ^ 54 % n = 0 then 0 else 1) * 2 ^ w) (by omega) (by omega) (by omega) ?_ hb0 hb1 st
  rw [show ((k : Int) - 1074 - ((l : Int) - 1074) - ((54 : Nat) : Int) - 1 + 1074 + ((1 : Nat) : Int)).toNat = w by omega, Nat.pow_one]
end Rb
end Go.Proofs.YtciigfaojmpoiaaGreatDoor
