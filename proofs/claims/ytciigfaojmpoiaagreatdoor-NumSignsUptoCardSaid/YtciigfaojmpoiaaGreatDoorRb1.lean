/- Number theory: how near a multiple of a number comes to the multiples of another one. -/
import Derived.Test.YtciigfaojmpoiaaGreatDoorBase
namespace Go.Proofs.YtciigfaojmpoiaaGreatDoor
open Go Go.RowKit
set_option linter.all false
namespace Rb
/-- two fractions side by side, a/b between them: no fraction of a lesser denominator than both together lies between -/
structure St where
  p0 : Nat
  q0 : Nat
  p1 : Nat
  q1 : Nat
  d0 : Nat
  d1 : Nat
def up (x y : Nat) : Nat := (x + y - 1) / y
/-- nearer, till the denominators reach Y -/
def best (Y : Nat) : Nat → St → St
  | 0, s => s
  | f + 1, s =>
    if Y ≤ s.q0 + s.q1 then s
    else if s.d0 = 0 then ⟨s.p0, s.q0, s.p1 + up (Y - s.q1) s.q0 * s.p0, s.q1 + up (Y - s.q1) s.q0 * s.q0, s.d0, s.d1⟩
    else if s.d1 = 0 then ⟨s.p0 + up (Y - s.q0) s.q1 * s.p1, s.q0 + up (Y - s.q0) s.q1 * s.q1, s.p1, s.q1, s.d0, s.d1⟩
    else if s.d1 ≤ s.d0 then best Y f (let k := min (s.d0 / s.d1) (up (Y - s.q0) s.q1); ⟨s.p0 + k * s.p1, s.q0 + k * s.q1, s.p1, s.q1, s.d0 - k * s.d1, s.d1⟩)
    else best Y f (let k := min (s.d1 / s.d0) (up (Y - s.q1) s.q0); ⟨s.p0, s.q0, s.p1 + k * s.p0, s.q1 + k * s.q0, s.d0, s.d1 - k * s.d0⟩)
def first (a b : Nat) : St := ⟨a / b, 1, a / b + 1, 1, a % b, b - a % b⟩
/-- what the two fractions must be -/
def good (a b Y w : Nat) (s : St) : Bool :=
  decide (s.p1 * s.q0 = s.p0 * s.q1 + 1) && decide (b * s.p0 ≤ a * s.q0) && decide (a * s.q1 ≤ b * s.p1) && decide (Y ≤ s.q0 + s.q1) && decide (0 < s.q0) && decide (0 < s.q1) && decide (s.q0 ≤ 2 ^ w) && decide (s.q1 ≤ 2 ^ w) &&
  (decide (a * s.q0 = b * s.p0) || decide (b ≤ 2 ^ w * (a * s.q0 - b * s.p0))) && (decide (a * s.q1 = b * s.p1) || decide (b ≤ 2 ^ w * (b * s.p1 - a * s.q1)))
def cert (a b Y w : Nat) : Bool := decide (0 < b) && good a b Y w (best Y 80 (first a b))
theorem coprime_dvd {p q y h r s : Nat} (det : s * q = p * r + 1) (e : y * p = h * q) : q ∣ y := by
  have h1 : y = (y * s - h * r) * q := by
    have e1 : y * s * q = y * p * r + y := by rw [Nat.mul_assoc, det, Nat.mul_add, Nat.mul_one, Nat.mul_assoc]
    have e2 : h * r * q = y * p * r := by rw [e, Nat.mul_right_comm]
    rw [Nat.sub_mul, e1, e2, Nat.add_sub_cancel_left]
  exact ⟨_, by rw [Nat.mul_comm]; exact h1⟩
/-- THE LEMMA: near multiples are equal ones -/
theorem near {a b Y w : Nat} (hc : cert a b Y w = true) {y h : Nat} (hy0 : 0 < y) (hy : y < Y) : y * a = h * b ∨ (h * b < y * a ∧ b ≤ 2 ^ w * (y * a - h * b)) ∨ (y * a < h * b ∧ b ≤ 2 ^ w * (h * b - y * a)) := by
  unfold cert at hc
  rw [Bool.and_eq_true, decide_eq_true_eq] at hc
  obtain ⟨hb, hg⟩ := hc
  generalize best Y 80 (first a b) = s at hg
  obtain ⟨p0, q0, p1, q1, d0, d1⟩ := s
  unfold good at hg
  simp only [Bool.and_eq_true, Bool.or_eq_true, decide_eq_true_eq] at hg
  obtain ⟨⟨⟨⟨⟨⟨⟨⟨⟨det, l0⟩, l1⟩, hY⟩, z0⟩, z1⟩, w0⟩, w1⟩, c0⟩, c1⟩ := hg
  generalize 2 ^ w = W at *
  by_cases g0 : h * q0 ≤ y * p0
  · -- below
    have k1 : q0 * (h * b) ≤ q0 * (y * a) := by
      calc q0 * (h * b) = h * q0 * b := by rw [← Nat.mul_assoc, Nat.mul_comm q0 h]
        _ ≤ y * p0 * b := Nat.mul_le_mul_right _ g0
        _ = y * (b * p0) := by rw [Nat.mul_assoc, Nat.mul_comm p0 b]
        _ ≤ y * (a * q0) := Nat.mul_le_mul_left _ l0
        _ = q0 * (y * a) := by rw [← Nat.mul_assoc, Nat.mul_comm]
    have k2 : h * b ≤ y * a := Nat.le_of_mul_le_mul_left k1 z0
    rcases Nat.lt_or_ge (h * q0) (y * p0) with g | g
    · -- not equal: at least b
      have k3 : q0 * (h * b) + b ≤ q0 * (y * a) := by
        calc q0 * (h * b) + b = (h * q0 + 1) * b := by rw [Nat.add_mul, Nat.one_mul, ← Nat.mul_assoc, Nat.mul_comm q0 h]
          _ ≤ y * p0 * b := Nat.mul_le_mul_right _ g
          _ = y * (b * p0) := by rw [Nat.mul_assoc, Nat.mul_comm p0 b]
          _ ≤ y * (a * q0) := Nat.mul_le_mul_left _ l0
          _ = q0 * (y * a) := by rw [← Nat.mul_assoc, Nat.mul_comm]
      have k4 : b ≤ q0 * (y * a - h * b) := by rw [Nat.mul_sub]; omega
      have k5 : h * b < y * a := by
        rcases Nat.lt_or_ge (h * b) (y * a) with k | k
        · exact k
        · rw [show y * a - h * b = 0 by omega, Nat.mul_zero] at k4; omega
      exact .inr (.inl ⟨k5, Nat.le_trans k4 (Nat.mul_le_mul_right _ w0)⟩)
    · have e : y * p0 = h * q0 := by omega
      obtain ⟨t, ht⟩ := coprime_dvd det e
      have ht0 : 0 < t := by
        rcases Nat.eq_zero_or_pos t with k | k
        · rw [k, Nat.mul_zero] at ht; omega
        · exact k
      have hh : h = t * p0 := by
        rw [ht] at e
        have : q0 * (t * p0) = q0 * h := by rw [← Nat.mul_assoc, e, Nat.mul_comm]
        exact (Nat.eq_of_mul_eq_mul_left z0 this).symm
      have e1 : y * a = t * (a * q0) := by rw [ht, Nat.mul_comm q0 t, Nat.mul_assoc, Nat.mul_comm q0 a]
      have e2 : h * b = t * (b * p0) := by rw [hh, Nat.mul_assoc, Nat.mul_comm p0 b]
      rcases c0 with c | c
      · exact .inl (by rw [e1, e2, c])
      · have k3 : y * a - h * b = t * (a * q0 - b * p0) := by rw [e1, e2, Nat.mul_sub]
        have k4 : b ≤ W * (y * a - h * b) := by
          rw [k3]
          calc b ≤ W * (a * q0 - b * p0) := c
            _ ≤ W * (t * (a * q0 - b * p0)) := Nat.mul_le_mul_left _ (Nat.le_mul_of_pos_left _ ht0)
        have k5 : h * b < y * a := by
          rcases Nat.lt_or_ge (h * b) (y * a) with k | k
          · exact k
          · rw [show y * a - h * b = 0 by omega, Nat.mul_zero] at k4; omega
        exact .inr (.inl ⟨k5, k4⟩)
  · by_cases g1 : y * p1 ≤ h * q1
    · -- above
      have k1 : q1 * (y * a) ≤ q1 * (h * b) := by
        calc q1 * (y * a) = y * (a * q1) := by rw [← Nat.mul_assoc, Nat.mul_comm q1 y, Nat.mul_assoc, Nat.mul_comm q1 a]
          _ ≤ y * (b * p1) := Nat.mul_le_mul_left _ l1
          _ = y * p1 * b := by rw [Nat.mul_comm b p1, Nat.mul_assoc]
          _ ≤ h * q1 * b := Nat.mul_le_mul_right _ g1
          _ = q1 * (h * b) := by rw [Nat.mul_comm h q1, Nat.mul_assoc]
      have k2 : y * a ≤ h * b := Nat.le_of_mul_le_mul_left k1 z1
      rcases Nat.lt_or_ge (y * p1) (h * q1) with g | g
      · have k3 : q1 * (y * a) + b ≤ q1 * (h * b) := by
          calc q1 * (y * a) + b = y * (a * q1) + b := by rw [← Nat.mul_assoc, Nat.mul_comm q1 y, Nat.mul_assoc, Nat.mul_comm q1 a]
            _ ≤ y * (b * p1) + b := Nat.add_le_add_right (Nat.mul_le_mul_left _ l1) _
            _ = (y * p1 + 1) * b := by rw [Nat.add_mul, Nat.one_mul, Nat.mul_comm b p1, Nat.mul_assoc]
            _ ≤ h * q1 * b := Nat.mul_le_mul_right _ g
            _ = q1 * (h * b) := by rw [Nat.mul_comm h q1, Nat.mul_assoc]
        have k4 : b ≤ q1 * (h * b - y * a) := by rw [Nat.mul_sub]; omega
        have k5 : y * a < h * b := by
          rcases Nat.lt_or_ge (y * a) (h * b) with k | k
          · exact k
          · rw [show h * b - y * a = 0 by omega, Nat.mul_zero] at k4; omega
        exact .inr (.inr ⟨k5, Nat.le_trans k4 (Nat.mul_le_mul_right _ w1)⟩)
      · have e : y * p1 = h * q1 := by omega
        have hdv : q1 ∣ y := by
          have h1 : y = (h * q0 - y * p0) * q1 := by
            have e1 : h * q0 * q1 = y * p0 * q1 + y := by
              calc h * q0 * q1 = h * q1 * q0 := by rw [Nat.mul_right_comm]
                _ = y * (p1 * q0) := by rw [← e, Nat.mul_assoc]
                _ = y * p0 * q1 + y := by rw [det, Nat.mul_add, Nat.mul_one, Nat.mul_assoc]
            rw [Nat.sub_mul, e1, Nat.add_sub_cancel_left]
          exact ⟨_, by rw [Nat.mul_comm]; exact h1⟩
        obtain ⟨t, ht⟩ := hdv
        have ht0 : 0 < t := by
          rcases Nat.eq_zero_or_pos t with k | k
          · rw [k, Nat.mul_zero] at ht; omega
          · exact k
        have hh : h = t * p1 := by
          rw [ht] at e
          have : q1 * (t * p1) = q1 * h := by rw [← Nat.mul_assoc, e, Nat.mul_comm]
          exact (Nat.eq_of_mul_eq_mul_left z1 this).symm
        have e1 : y * a = t * (a * q1) := by rw [ht, Nat.mul_comm q1 t, Nat.mul_assoc, Nat.mul_comm q1 a]
        have e2 : h * b = t * (b * p1) := by rw [hh, Nat.mul_assoc, Nat.mul_comm p1 b]
        rcases c1 with c | c
        · exact .inl (by rw [e1, e2, c])
        · have k3 : h * b - y * a = t * (b * p1 - a * q1) := by rw [e1, e2, Nat.mul_sub]
          have k4 : b ≤ W * (h * b - y * a) := by
            rw [k3]
            calc b ≤ W * (b * p1 - a * q1) := c
              _ ≤ W * (t * (b * p1 - a * q1)) := Nat.mul_le_mul_left _ (Nat.le_mul_of_pos_left _ ht0)
          have k5 : y * a < h * b := by
            rcases Nat.lt_or_ge (y * a) (h * b) with k | k
            · exact k
            · rw [show h * b - y * a = 0 by omega, Nat.mul_zero] at k4; omega
          exact .inr (.inr ⟨k5, k4⟩)
    · -- between: the denominator is too great
      exfalso
      have i0 : y * p0 + 1 ≤ h * q0 := by omega
      have i1 : h * q1 + 1 ≤ y * p1 := by omega
      have j0 : (y * p0 + 1) * q1 ≤ h * q0 * q1 := Nat.mul_le_mul_right _ i0
      have j1 : (h * q1 + 1) * q0 ≤ y * p1 * q0 := Nat.mul_le_mul_right _ i1
      have e1 : y * p1 * q0 = y * p0 * q1 + y := by rw [Nat.mul_assoc, det, Nat.mul_add, Nat.mul_one, Nat.mul_assoc]
      have e2 : h * q0 * q1 = h * q1 * q0 := by rw [Nat.mul_right_comm]
      rw [Nat.add_mul, Nat.one_mul] at j0 j1
      omega
end Rb
end Go.Proofs.YtciigfaojmpoiaaGreatDoor
