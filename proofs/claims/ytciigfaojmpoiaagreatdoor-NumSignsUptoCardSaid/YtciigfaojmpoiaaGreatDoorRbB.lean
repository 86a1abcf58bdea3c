/- The scaled product is exact: cut, with a bit for what is cut off. The scaled products of the formatting are exact. The shortest digits lie where the float's own numbers lie. The shortest digits lie in the float's place. Which numbers round to a float: those between the middles to its neighbours. The shortest digits round to their float. -/
import Derived.Test.YtciigfaojmpoiaaGreatDoorUsA
import Derived.Test.YtciigfaojmpoiaaGreatDoorRb1
import Derived.Test.YtciigfaojmpoiaaGreatDoorRb2
namespace Go.Proofs.YtciigfaojmpoiaaGreatDoor
open Go Go.RowKit
set_option linter.all false
namespace Rb
open Us
/-- cut, with a bit for what is cut off -/
def unr (N D : Nat) : Nat := N / D ||| b2 (decide (N % D ≠ 0))
theorem unr_in {X D q : Nat} (h0 : q * D < X) (h1 : X < (q + 1) * D) : unr X D = q ||| 1 := by
  have e : X / D = q := Nat.div_eq_of_lt_le (Nat.le_of_lt h0) h1
  have hm : X % D ≠ 0 := by
    intro k
    have := Nat.div_add_mod X D
    rw [e, k, Nat.mul_comm] at this
    omega
  unfold unr
  rw [e, decide_eq_true hm]; rfl
theorem unr_at {D q : Nat} (hD : 0 < D) : unr (q * D) D = q ||| 0 := by
  unfold unr
  rw [Nat.mul_div_cancel _ hD, Nat.mul_mod_left]; rfl
theorem lt_up {X P D K : Nat} (hD : 0 < D) (up : X ≤ P * D) (h : P < K) : X < K * D := Nat.lt_of_le_of_lt up (Nat.mul_lt_mul_of_pos_right h hD)
theorem lt_lo {X P x D K : Nat} (lo : P * D < X + x * D) (h : K + x ≤ P) : K * D < X := by
  have := Nat.mul_le_mul_right D h
  rw [Nat.add_mul] at this
  omega
/-- THE SCALED PRODUCT -/
theorem usc_exact {x A B s N D p : Nat} (hx0 : 4611686018427387904 ≤ x) (hx : x < 18446744073709551616) (hA0 : 9223372036854775808 ≤ A) (hA : A < 18446744073709551616) (hB : B < 18446744073709551616)
    (hp : p + B = A * 18446744073709551616) (hD : 0 < D) (h1 : N ≤ p * D) (h2 : p * D < N + D)
    (near : ∀ h, (x * N < h * (2 ^ s * (340282366920938463463374607431768211456 * D)) + 36893488147419103232 * D) → (h * (2 ^ s * (340282366920938463463374607431768211456 * D)) < x * N + 36893488147419103232 * D) → x * N = h * (2 ^ s * (340282366920938463463374607431768211456 * D))) :
    usc x A B s = unr (x * N) (2 ^ s * (340282366920938463463374607431768211456 * D)) := by
  have hS : 0 < 2 ^ s := Nat.pow_pos (by decide)
  unfold usc
  generalize 2 ^ s = S at *
  have up : x * N ≤ x * p * D := by rw [Nat.mul_assoc]; exact Nat.mul_le_mul_left _ h1
  have lo : x * p * D < x * N + x * D := by
    rw [Nat.mul_assoc, ← Nat.mul_add]
    exact Nat.mul_lt_mul_of_pos_left h2 (by omega)
  have hP : x * p + x * B = x * A * 18446744073709551616 := by rw [← Nat.mul_add, hp, Nat.mul_assoc]
  have hxA : 4611686018427387904 * 9223372036854775808 ≤ x * A := Nat.mul_le_mul hx0 hA0
  have hxB : x * B ≤ 18446744073709551615 * 18446744073709551615 := Nat.mul_le_mul (by omega) (by omega)
  have hxA2 : x * A ≤ 18446744073709551615 * 18446744073709551615 := Nat.mul_le_mul (by omega) (by omega)
  generalize x * N = X at *
  generalize x * p = P at *
  generalize x * A = U at *
  generalize x * B = V at *
  obtain ⟨hi, hhi⟩ : ∃ hi, U / 18446744073709551616 = hi := ⟨_, rfl⟩
  obtain ⟨mid, hmid⟩ : ∃ mid, U % 18446744073709551616 = mid := ⟨_, rfl⟩
  obtain ⟨m2, hm2⟩ : ∃ m2, V / 18446744073709551616 = m2 := ⟨_, rfl⟩
  have hQ : ∀ q, q * (S * (340282366920938463463374607431768211456 * D)) = q * S * 340282366920938463463374607431768211456 * D := fun q => by rw [Nat.mul_assoc, Nat.mul_assoc, ← Nat.mul_assoc S]
  have hG : 0 < S * (340282366920938463463374607431768211456 * D) := Nat.mul_pos hS (by omega)
  have hq : hi / S * S ≤ hi ∧ hi < (hi / S + 1) * S := ⟨Nat.div_mul_le_self _ _, by rw [Nat.add_mul, Nat.one_mul]; exact Nat.lt_div_mul_add hS⟩
  rw [hhi, hmid, hm2]
  obtain ⟨q, hqq⟩ : ∃ q, hi / S = q := ⟨_, rfl⟩
  rw [hqq] at hq ⊢
  have hq2 : (q + 1) * S = q * S + S := by rw [Nat.add_mul, Nat.one_mul]
  by_cases g : q * S ≠ hi
  · rw [if_pos g]
    symm
    apply unr_in
    · rw [hQ]
      exact lt_lo lo (by omega)
    · rw [hQ]
      exact lt_up hD up (by omega)
  · rw [if_neg g]
    have g : q * S = hi := by omega
    have hq1 : 1 ≤ q := by
      rcases Nat.eq_zero_or_pos q with k | k
      · rw [k, Nat.zero_mul] at g; omega
      · exact k
    by_cases gm : mid < m2
    · rw [decide_eq_true gm]
      have e1 : (hi + 18446744073709551616 - b2 true) % 18446744073709551616 = hi - 1 := by
        rw [show b2 true = 1 from rfl]; omega
      have e2 : decide (1 < (mid + 18446744073709551616 - m2) % 18446744073709551616) = true := by rw [decide_eq_true_eq]; omega
      obtain ⟨r, hr⟩ : ∃ r, q = r + 1 := ⟨q - 1, by omega⟩
      have hrS : (r + 1) * S = r * S + S := by rw [Nat.add_mul, Nat.one_mul]
      have e3 : (hi - 1) / S = r := by
        rw [← g, hr]
        exact Nat.div_eq_of_lt_le (by omega) (by omega)
      rw [e1, e2, e3]
      symm
      apply unr_in
      · rw [hQ]
        rw [hr] at g
        exact lt_lo lo (by omega)
      · rw [hQ, ← hr]
        exact lt_up hD up (by omega)
    · rw [decide_eq_false gm]
      have e1 : (hi + 18446744073709551616 - b2 false) % 18446744073709551616 = hi := by
        rw [show b2 false = 0 from rfl]; omega
      have e2 : (mid + 18446744073709551616 - m2) % 18446744073709551616 = mid - m2 := by omega
      rw [e1, e2, hqq]
      by_cases g2 : 1 < mid - m2
      · rw [decide_eq_true g2]
        symm
        apply unr_in
        · rw [hQ]
          exact lt_lo lo (by omega)
        · rw [hQ]
          exact lt_up hD up (by omega)
      · rw [decide_eq_false g2]
        have k1 : X < (q * S * 340282366920938463463374607431768211456 + 36893488147419103232) * D := lt_up hD up (by omega)
        have k2 : (q * S * 340282366920938463463374607431768211456 - 36893488147419103232) * D < X := lt_lo lo (by omega)
        rw [Nat.add_mul] at k1
        rw [Nat.sub_mul] at k2
        have e := near q (by rw [hQ]; omega) (by rw [hQ]; omega)
        rw [e, unr_at hG]
        rfl
end Rb
end Go.Proofs.YtciigfaojmpoiaaGreatDoor
namespace Go.Proofs.YtciigfaojmpoiaaGreatDoor
open Go Go.RowKit
set_option linter.all false
namespace Rb
open Us Ft P10
set_option exponentiation.threshold 20000
theorem dt_pos (p : Int) : 0 < dt p := Nat.mul_pos (Nat.pow_pos (by decide)) (Nat.pow_pos (by decide))
theorem nt_pos (p : Int) : 0 < nt p := Nat.mul_pos (Nat.pow_pos (by decide)) (Nat.pow_pos (by decide))
theorem tab_at {p : Int} (h0 : -345 ≤ p) (h1 : p ≤ 330) : pm p * dt p < nt p + dt p ∧ nt p ≤ pm p * dt p ∧ pm p + Lo0 (p + 348).toNat = Hi0 (p + 348).toNat * 18446744073709551616 := by
  have h := List.all_eq_true.1 tab_ok (p + 345).toNat (List.mem_range.2 (by omega))
  unfold tabB at h
  rw [show (((p + 345).toNat : Nat) : Int) - 345 = p by omega] at h
  simp only [Bool.and_eq_true, decide_eq_true_eq] at h
  obtain ⟨⟨a1, a2⟩, a3⟩ := h
  have hA := pow_at (k := (p + 348).toNat) (by omega)
  refine ⟨?_, a2, ?_⟩
  · have e : pm p * dt p = (pm p - 1) * dt p + dt p := by
      obtain ⟨q, hq⟩ : ∃ q, pm p = q + 1 := ⟨pm p - 1, by omega⟩
      rw [hq, Nat.add_sub_cancel, Nat.add_mul, Nat.one_mul]
    omega
  · have hB := hA.2.2.2
    have hH := hA.2.1
    unfold pm
    omega
/-- from what the kernel has seen: near is equal -/
theorem near_eq {c N D Y s y : Nat} (hD : 0 < D) (hc : cert (c * N) (2 ^ (s + 128) * D) Y (63 + s) = true) (hy0 : 0 < y) (hy : y < Y) :
    ∀ h, (c * y * N < h * (2 ^ s * (340282366920938463463374607431768211456 * D)) + 36893488147419103232 * D) → (h * (2 ^ s * (340282366920938463463374607431768211456 * D)) < c * y * N + 36893488147419103232 * D) → c * y * N = h * (2 ^ s * (340282366920938463463374607431768211456 * D)) := by
  intro h k1 k2
  have e1 : c * y * N = y * (c * N) := by rw [Nat.mul_comm c y, Nat.mul_assoc]
  have e2 : 2 ^ s * (340282366920938463463374607431768211456 * D) = 2 ^ (s + 128) * D := by rw [Nat.pow_add, Nat.mul_assoc]
  have e3 : 2 ^ (s + 128) * D = 2 ^ (63 + s) * (36893488147419103232 * D) := by
    rw [show s + 128 = 63 + s + 65 by omega, Nat.pow_add 2 (63 + s) 65, Nat.mul_assoc]
  rw [e1, e2] at k1 k2 ⊢
  have hW : 0 < 2 ^ (63 + s) := Nat.pow_pos (by decide)
  rcases near hc hy0 hy (h := h) with e | ⟨l, b⟩ | ⟨l, b⟩
  · exact e
  · exfalso
    have b : 2 ^ (63 + s) * (36893488147419103232 * D) ≤ 2 ^ (63 + s) * (y * (c * N) - h * (2 ^ (s + 128) * D)) := by rw [← e3]; exact b
    have := Nat.le_of_mul_le_mul_left b hW
    omega
  · exfalso
    have b : 2 ^ (63 + s) * (36893488147419103232 * D) ≤ 2 ^ (63 + s) * (h * (2 ^ (s + 128) * D) - y * (c * N)) := by rw [← e3]; exact b
    have := Nat.le_of_mul_le_mul_left b hW
    omega
theorem fmt_at {m : Nat} {E : Int} (hV : V m E) : cert (512 * nt (pO m E)) (2 ^ (sO m E + 128) * dt (pO m E)) (2 ^ 55) (63 + sO m E) = true := by
  have e0 := hV.e0
  have e1 := hV.e1
  have h := List.all_eq_true.1 fmt_ok (E + 1137).toNat (List.mem_range.2 (by omega))
  unfold fmtB at h
  rw [show (((E + 1137).toNat : Nat) : Int) - 1137 = E by omega] at h
  simp only [Bool.and_eq_true, Bool.or_eq_true, decide_eq_true_eq] at h
  have hs : sO m E = sOf E (pO m E) := rfl
  rw [hs]
  unfold pO
  by_cases g : edge m E = true
  · rw [if_pos g]
    rcases h.2 with k | k
    · exfalso
      unfold edge at g
      simp only [Bool.and_eq_true, decide_eq_true_eq] at g
      omega
    · exact k
  · rw [if_neg g]
    exact h.1
/-- what the formatting scales by -/
def QO (m : Nat) (E : Int) : Nat := 2 ^ sO m E * (340282366920938463463374607431768211456 * dt (pO m E))
theorem QO_pos (m : Nat) (E : Int) : 0 < QO m E := Nat.mul_pos (Nat.pow_pos (by decide)) (Nat.mul_pos (by decide) (dt_pos _))
theorem u_exact {m : Nat} {E : Int} (hV : V m E) {x : Nat} (h0 : 4611686018427387904 ≤ x) (h1 : x < 18446744073709551616) (h5 : x % 512 = 0) : uO Hi0 Lo0 m E x = unr (x * nt (pO m E)) (QO m E) := by
  obtain ⟨p0, p1, s0, s1⟩ := hV.p
  obtain ⟨t1, t2, t3⟩ := tab_at (p := pO m E) (by omega) (by omega)
  have hA := pow_at (k := kO m E) (by unfold kO; omega)
  obtain ⟨y, hy⟩ : ∃ y, x = 512 * y := ⟨x / 512, by omega⟩
  unfold uO QO
  refine usc_exact h0 h1 hA.2.1 hA.2.2.1 hA.2.2.2 t3 (dt_pos _) t2 t1 ?_
  rw [hy]
  exact near_eq (dt_pos _) (fmt_at hV) (by omega) (by omega)
theorem z512 {m : Nat} {E : Int} (hV : V m E) : m % 512 = 0 ∧ mnO m E % 512 = 0 ∧ mxO m E % 512 = 0 := by
  have hz := zO_le hV.e0
  have hm := hV.z
  have d1 : m % 512 = 0 := by
    have hd : 512 ∣ 2 ^ zO E := Nat.pow_dvd_pow 2 (show 9 ≤ zO E by omega)
    exact Nat.mod_eq_zero_of_dvd (Nat.dvd_trans hd (Nat.dvd_of_mod_eq_zero hm))
  have d2 : 2 ^ (zO E - 1) % 512 = 0 := Nat.mod_eq_zero_of_dvd (Nat.pow_dvd_pow 2 (show 9 ≤ zO E - 1 by omega))
  have hends := hV.ends
  unfold mnO mxO at *
  split at hends
  · rename_i g
    rw [if_pos g, if_pos g]
    omega
  · rename_i g
    rw [if_neg g, if_neg g]
    omega
end Rb
end Go.Proofs.YtciigfaojmpoiaaGreatDoor
namespace Go.Proofs.YtciigfaojmpoiaaGreatDoor
open Go Go.RowKit
set_option linter.all false
namespace Rb
open Us Ft P10
set_option exponentiation.threshold 20000
theorem or_bit (q b : Nat) (hb : b ≤ 1) : q ≤ (q ||| b) ∧ (q ||| b) ≤ q + 1 := by
  refine ⟨Nat.left_le_or, ?_⟩
  rcases (show b = 0 ∨ b = 1 by omega) with rfl | rfl
  · rw [Nat.or_zero]; omega
  · have := Hx.half_or (2 * q + 1)
    rw [show (2 * q + 1) / 2 = q by omega, show (2 * q + 1) % 2 = 1 by omega] at this
    exact this
theorem or1 (q : Nat) : q ≤ (q ||| 1) ∧ (q ||| 1) ≤ q + 1 ∧ (q ||| 1) % 2 = 1 := by
  have := or_bit q 1 (Nat.le_refl _)
  exact ⟨this.1, this.2, Nat.or_mod_two_eq_one.2 (.inr rfl)⟩
theorem unr_cases (X : Nat) {Q : Nat} (hQ : 0 < Q) : ∃ q, (X = q * Q ∧ unr X Q = q) ∨ (q * Q < X ∧ X < (q + 1) * Q ∧ q ≤ unr X Q ∧ unr X Q ≤ q + 1 ∧ unr X Q % 2 = 1) := by
  have hdm := Nat.div_add_mod X Q
  have hr := Nat.mod_lt X hQ
  refine ⟨X / Q, ?_⟩
  by_cases g : X % Q = 0
  · left
    refine ⟨by rw [Nat.mul_comm]; omega, ?_⟩
    unfold unr
    rw [g]
    exact Nat.or_zero _
  · right
    have e : unr X Q = X / Q ||| 1 := by unfold unr; rw [decide_eq_true g]; rfl
    rw [e]
    obtain ⟨o1, o2, o3⟩ := or1 (X / Q)
    rw [Nat.add_mul, Nat.one_mul, Nat.mul_comm]
    exact ⟨by omega, by omega, o1, o2, o3⟩
/-- a number of units against a cut -/
theorem mul_lt_q {q k Q : Nat} (hQ : 0 < Q) : q * Q < k * Q ↔ q < k := ⟨fun h => Nat.lt_of_mul_lt_mul_right h, fun h => Nat.mul_lt_mul_of_pos_right h hQ⟩
theorem mul_le_q {q k Q : Nat} (hQ : 0 < Q) : q * Q ≤ k * Q ↔ q ≤ k := ⟨fun h => Nat.le_of_mul_le_mul_right h hQ, fun h => Nat.mul_le_mul_right _ h⟩
/-- within: closed where o = 0, open where o = 1 -/
def lo (o a b : Nat) : Prop := if o = 0 then a ≤ b else a < b
theorem ceil_iff (X d : Nat) {Q o : Nat} (hQ : 0 < Q) (ho : o ≤ 1) : (unr X Q + o + 3) / 4 ≤ d ↔ lo o X (4 * d * Q) := by
  unfold lo
  obtain ⟨q, h | h⟩ := unr_cases X hQ
  · obtain ⟨h1, h2⟩ := h
    rw [h2, h1, mul_lt_q hQ, mul_le_q hQ]
    split <;> omega
  · obtain ⟨h1, h2, h3, h4, h5⟩ := h
    have j1 : q < 4 * d → (q + 1) * Q ≤ 4 * d * Q := fun h => (mul_le_q hQ).2 h
    have j2 : q * Q < 4 * d * Q → q < 4 * d := fun h => (mul_lt_q hQ).1 h
    have k1 : X ≤ 4 * d * Q ↔ q < 4 * d := ⟨fun h => j2 (by omega), fun h => by have := j1 h; omega⟩
    have k2 : X < 4 * d * Q ↔ q < 4 * d := ⟨fun h => j2 (by omega), fun h => by have := j1 h; omega⟩
    rw [k1, k2]
    split <;> omega
theorem floor_iff (X d : Nat) {Q o : Nat} (hQ : 0 < Q) (ho : o ≤ 1) (hd : 0 < d) : d ≤ (unr X Q - o) / 4 ↔ lo o (4 * d * Q) X := by
  unfold lo
  obtain ⟨q, h | h⟩ := unr_cases X hQ
  · obtain ⟨h1, h2⟩ := h
    rw [h2, h1, mul_lt_q hQ, mul_le_q hQ]
    split <;> omega
  · obtain ⟨h1, h2, h3, h4, h5⟩ := h
    have j1 : 4 * d ≤ q → 4 * d * Q ≤ q * Q := fun h => (mul_le_q hQ).2 h
    have j2 : 4 * d * Q < (q + 1) * Q → 4 * d ≤ q := fun h => by have := (mul_lt_q hQ).1 h; omega
    have k1 : 4 * d * Q ≤ X ↔ 4 * d ≤ q := ⟨fun h => j2 (by omega), fun h => by have := j1 h; omega⟩
    have k2 : 4 * d * Q < X ↔ 4 * d ≤ q := ⟨fun h => j2 (by omega), fun h => by have := j1 h; omega⟩
    rw [k1, k2]
    split <;> omega
theorem rnd_near {X Q : Nat} (hQ : 0 < Q) (hu : unr X Q < 1152921504606846976) : 4 * rnd (unr X Q) * Q ≤ X + 2 * Q ∧ X ≤ 4 * rnd (unr X Q) * Q + 2 * Q := by
  have e : rnd (unr X Q) = (unr X Q + 1 + unr X Q / 4 % 2) / 4 := by
    unfold rnd
    rw [Nat.mod_eq_of_lt (show unr X Q + 1 < 18446744073709551616 by omega), Nat.mod_eq_of_lt (show unr X Q + 1 + unr X Q / 4 % 2 < 18446744073709551616 by omega)]
  rw [e]
  obtain ⟨q, h | h⟩ := unr_cases X hQ
  · obtain ⟨h1, h2⟩ := h
    rw [h2, h1, ← Nat.add_mul, ← Nat.add_mul, mul_le_q hQ, mul_le_q hQ]
    omega
  · obtain ⟨h1, h2, h3, h4, h5⟩ := h
    obtain ⟨d, hd⟩ : ∃ d, (unr X Q + 1 + unr X Q / 4 % 2) / 4 = d := ⟨_, rfl⟩
    have a1 : 4 * d ≤ q + 2 := by omega
    have a2 : q + 1 ≤ 4 * d + 2 := by omega
    rw [hd]
    have b1 := (mul_le_q (q := 4 * d) (k := q + 2) hQ).2 a1
    have b2 := (mul_le_q (q := q + 1) (k := 4 * d + 2) hQ).2 a2
    rw [Nat.add_mul q 2] at b1
    rw [Nat.add_mul (4 * d) 2] at b2
    exact ⟨by omega, by omega⟩
/-- how wide the place is -/
def widB (i : Nat) : Bool := let E : Int := (i : Int) - 1137
  let p := -l10 (E + (zO E : Int)); let p2 := -skw (E + 11)
  (decide (E + (zO E : Int) = 0) || decide (4 * (2 ^ sOf E p * (340282366920938463463374607431768211456 * dt p)) < 2 ^ zO E * nt p)) && decide (4 * (2 ^ sOf E p2 * (340282366920938463463374607431768211456 * dt p2)) < 1536 * nt p2 ∨ E ≤ -1085)
set_option maxRecDepth 100000 in
theorem wid_ok : (List.range 2098).all widB = true := by decide +kernel
end Rb
end Go.Proofs.YtciigfaojmpoiaaGreatDoor
namespace Go.Proofs.YtciigfaojmpoiaaGreatDoor
open Go Go.RowKit
set_option linter.all false
namespace Rb
open Us Ft P10
set_option exponentiation.threshold 20000
theorem wid_at {m : Nat} {E : Int} (hV : V m E) : (edge m E = false ∧ E + (zO E : Int) = 0) ∨ (edge m E = false ∧ 4 * QO m E < 2 ^ zO E * nt (pO m E)) ∨ (edge m E = true ∧ 4 * QO m E < 1536 * nt (pO m E)) := by
  have e0 := hV.e0
  have e1 := hV.e1
  have h := List.all_eq_true.1 wid_ok (E + 1137).toNat (List.mem_range.2 (by omega))
  unfold widB at h
  rw [show (((E + 1137).toNat : Nat) : Int) - 1137 = E by omega] at h
  simp only [Bool.and_eq_true, Bool.or_eq_true, decide_eq_true_eq] at h
  have hs : QO m E = 2 ^ sOf E (pO m E) * (340282366920938463463374607431768211456 * dt (pO m E)) := rfl
  rw [hs]
  rcases g : edge m E with _ | _
  · have hp : pO m E = -l10 (E + (zO E : Int)) := by unfold pO; rw [g]; rfl
    rw [hp]
    rcases h.1 with k | k
    · exact .inl ⟨rfl, k⟩
    · exact .inr (.inl ⟨rfl, k⟩)
  · have hp : pO m E = -skw (E + 11) := by unfold pO; rw [g]; rfl
    rw [hp]
    rcases h.2 with k | k
    · exact .inr (.inr ⟨rfl, k⟩)
    · exfalso
      unfold edge at g
      simp only [Bool.and_eq_true, decide_eq_true_eq] at g
      omega
theorem lo_mono {o a b c : Nat} (h : a ≤ b) (k : lo o b c) : lo o a c := by unfold lo at *; split at k <;> rename_i g <;> simp only [g, if_true, if_false] <;> omega
theorem lo_lt {o a b : Nat} (h : a < b) : lo o a b := by unfold lo; split <;> omega
theorem lo_le {o a b : Nat} (h : lo o a b) : a ≤ b := by unfold lo at h; split at h <;> omega
theorem lo_not {o a b : Nat} (h : ¬ lo o a b) : b ≤ a := by unfold lo at h; split at h <;> omega
/-- D digits, at the scale of the formatting, lie in the float's place -/
def inI (m : Nat) (E : Int) (D : Nat) : Prop := lo (odO m E) (mnO m E * nt (pO m E)) (4 * D * QO m E) ∧ lo (odO m E) (4 * D * QO m E) (mxO m E * nt (pO m E))
theorem gaps {m : Nat} {E : Int} (hV : V m E) : ∃ h k, mnO m E + h = m ∧ mxO m E = m + k ∧ h ≤ k ∧ k ≤ 2 * h ∧ (edge m E = true → h = 512 ∧ k = 1024) ∧ (edge m E = false → h = 2 ^ (zO E - 1) ∧ k = 2 ^ (zO E - 1)) := by
  have hends := hV.ends
  have m0 := hV.m0
  have hz := zO_le hV.e0
  unfold mnO mxO
  rcases g : edge m E with _ | _
  · have hle : 2 ^ (zO E - 1) ≤ 2 ^ 62 := Nat.pow_le_pow_right (by decide) (by omega)
    refine ⟨2 ^ (zO E - 1), 2 ^ (zO E - 1), ?_, ?_, Nat.le_refl _, by omega, (fun h => by cases h), fun _ => ⟨rfl, rfl⟩⟩
    · rw [if_neg (by decide)]; omega
    · rw [if_neg (by decide)]
  · exact ⟨512, 1024, by rw [if_pos rfl]; omega, by rw [if_pos rfl], by omega, by omega, (fun _ => ⟨rfl, rfl⟩), (fun h => by cases h)⟩
/-- there is a whole number in the place -/
theorem ex_in {m : Nat} {E : Int} (hV : V m E) : ∃ K, inI m E K := by
  obtain ⟨h, k, g1, g2, g3, g4, g5, g6⟩ := gaps hV
  have hQ := QO_pos m E
  have hN := nt_pos (pO m E)
  unfold inI
  rcases wid_at hV with ⟨w1, w2⟩ | ⟨w1, w2⟩ | ⟨w1, w2⟩
  · -- the float is a whole number at this scale
    obtain ⟨k1, k2⟩ := g6 w1
    have hE : E = -11 := by
      have : zO E = 11 := by
        unfold zO at w2 ⊢
        split at w2 <;> rename_i c
        · rw [if_pos c]
        · omega
      omega
    subst hE
    have hp : pO m (-11) = 0 := by unfold pO; rw [w1]; decide
    have hz : zO (-11) = 11 := by decide
    have hq : QO m (-11) = 2 ^ 136 := by unfold QO sO; rw [hp]; decide +kernel
    have hn : nt (pO m (-11)) = 2 ^ 127 := by rw [hp]; decide +kernel
    have hm := hV.z
    rw [hz] at hm
    obtain ⟨K, hK⟩ := Nat.dvd_of_mod_eq_zero hm
    have e : 4 * K * 2 ^ 136 = m * 2 ^ 127 := by rw [hK]; omega
    refine ⟨K, ?_, ?_⟩
    · rw [hq, hn, e]
      exact lo_lt (Nat.mul_lt_mul_of_pos_right (by rw [k1, hz] at g1; omega) (by decide))
    · rw [hq, hn, e]
      exact lo_lt (Nat.mul_lt_mul_of_pos_right (by rw [k2, hz] at g2; omega) (by decide))
  all_goals
    have hw : (h + k) * nt (pO m E) > 4 * QO m E := by
      first
        | (obtain ⟨k1, k2⟩ := g6 w1
           have hz := zO_le hV.e0
           have e : h + k = 2 ^ zO E := by
             obtain ⟨z, hz⟩ : ∃ z, zO E = z + 1 := ⟨zO E - 1, by omega⟩
             rw [k1, k2, hz, Nat.add_sub_cancel, Nat.pow_succ]; omega
           rw [e]; exact w2)
        | (obtain ⟨k1, k2⟩ := g5 w1
           rw [k1, k2]; exact w2)
    have e1 : mxO m E * nt (pO m E) = mnO m E * nt (pO m E) + (h + k) * nt (pO m E) := by rw [← Nat.add_mul]; congr 1; omega
    generalize mnO m E * nt (pO m E) = a at *
    generalize mxO m E * nt (pO m E) = c at *
    generalize (h + k) * nt (pO m E) = wd at *
    generalize QO m E = Q at *
    have hd := Nat.div_add_mod a (4 * Q)
    have hr := Nat.mod_lt a (show 0 < 4 * Q by omega)
    refine ⟨a / (4 * Q) + 1, ?_, ?_⟩
    · apply lo_lt
      rw [Nat.mul_add, Nat.add_mul, show 4 * (a / (4 * Q)) * Q = 4 * Q * (a / (4 * Q)) by rw [Nat.mul_assoc, Nat.mul_comm (a / (4 * Q)) Q, ← Nat.mul_assoc]]
      omega
    · apply lo_lt
      rw [Nat.mul_add, Nat.add_mul, show 4 * (a / (4 * Q)) * Q = 4 * Q * (a / (4 * Q)) by rw [Nat.mul_assoc, Nat.mul_comm (a / (4 * Q)) Q, ← Nat.mul_assoc]]
      omega
/-- THE SHORTEST DIGITS LIE IN THE FLOAT'S PLACE -/
theorem sh_in {m : Nat} {E : Int} (hV : V m E) : ∃ D, inI m E D ∧ (sh Hi0 Lo0 m E = (D, -pO m E) ∨ ∃ D', D = 10 * D' ∧ sh Hi0 Lo0 m E = (D', -(pO m E - 1))) := by
  obtain ⟨e1, e2, e3, e4⟩ := hV.ends
  have m0 := hV.m0
  have m1 := hV.m1
  obtain ⟨z1, z2, z3⟩ := z512 hV
  have ho := odO_le m E
  have hQ := QO_pos m E
  have u1 := u_exact hV e1 e3 z2
  have u2 := u_exact hV e4 e2 z3
  have u3 := u_exact hV (x := m) (by omega) m1 z1
  have b3 := hV.u big (x := m) (by omega) m1
  have b1 := hV.u big e1 e3
  have b2 := hV.u big e4 e2
  have C : ∀ d, dmn Hi0 Lo0 m E ≤ d ↔ lo (odO m E) (mnO m E * nt (pO m E)) (4 * d * QO m E) := fun d => by
    unfold dmn; rw [u1]; exact ceil_iff _ d hQ ho
  have F : ∀ d, 0 < d → (d ≤ dmx Hi0 Lo0 m E ↔ lo (odO m E) (4 * d * QO m E) (mxO m E * nt (pO m E))) := fun d hd => by
    unfold dmx; rw [u2]; exact floor_iff _ d hQ ho hd
  have hmn : 1 ≤ dmn Hi0 Lo0 m E := by unfold dmn; omega
  have I : ∀ d, dmn Hi0 Lo0 m E ≤ d → d ≤ dmx Hi0 Lo0 m E → inI m E d := fun d h1 h2 => ⟨(C d).1 h1, (F d (by omega)).1 h2⟩
  unfold sh
  by_cases c1 : dmn Hi0 Lo0 m E ≤ dmx Hi0 Lo0 m E / 10 * 10
  · rw [if_pos c1]
    refine ⟨10 * (dmx Hi0 Lo0 m E / 10), I _ (by omega) (by omega), .inr ⟨_, rfl, rfl⟩⟩
  · rw [if_neg c1]
    by_cases c2 : dmn Hi0 Lo0 m E < dmx Hi0 Lo0 m E
    · rw [if_pos c2]
      refine ⟨_, ?_, .inl rfl⟩
      rw [u3] at b3 ⊢
      obtain ⟨r1, r2⟩ := rnd_near hQ b3.2
      generalize rnd (unr (m * nt (pO m E)) (QO m E)) = D at *
      obtain ⟨h, k, g1, g2, g3, g4, -, -⟩ := gaps hV
      have a1 : mnO m E * nt (pO m E) + h * nt (pO m E) = m * nt (pO m E) := by rw [← Nat.add_mul, g1]
      have a2 : mxO m E * nt (pO m E) = m * nt (pO m E) + k * nt (pO m E) := by rw [g2, Nat.add_mul]
      have a3 : h * nt (pO m E) ≤ k * nt (pO m E) := Nat.mul_le_mul_right _ g3
      have a4 : k * nt (pO m E) ≤ 2 * (h * nt (pO m E)) := by rw [← Nat.mul_assoc]; exact Nat.mul_le_mul_right _ g4
      obtain ⟨mn, hmnq⟩ : ∃ mn, dmn Hi0 Lo0 m E = mn := ⟨_, rfl⟩
      obtain ⟨mx, hmxq⟩ : ∃ mx, dmx Hi0 Lo0 m E = mx := ⟨_, rfl⟩
      have C1 := lo_le ((C mn).1 (by omega))
      have F1 := lo_le ((F mx (by omega)).1 (by omega))
      have C2 : 4 * (mn - 1) * QO m E ≤ mnO m E * nt (pO m E) := lo_not (fun h => by have := (C (mn - 1)).2 h; omega)
      have F2 : mxO m E * nt (pO m E) ≤ 4 * (mx + 1) * QO m E := lo_not (fun h => by have := (F (mx + 1) (by omega)).2 h; omega)
      rw [hmnq, hmxq] at c2 I
      refine I D ?_ ?_
      · rcases Nat.lt_or_ge D mn with g | g
        · exfalso
          have j1 : 4 * D * QO m E ≤ 4 * (mn - 1) * QO m E := Nat.mul_le_mul_right _ (by omega)
          have j2 : 4 * (mn - 1) * QO m E + 8 * QO m E ≤ 4 * mx * QO m E := by rw [← Nat.add_mul]; exact Nat.mul_le_mul_right _ (by omega)
          omega
        · exact g
      · rcases Nat.lt_or_ge mx D with g | g
        · exfalso
          have j1 : 4 * (mx + 1) * QO m E ≤ 4 * D * QO m E := Nat.mul_le_mul_right _ (by omega)
          have j2 : 4 * mn * QO m E + 8 * QO m E ≤ 4 * (mx + 1) * QO m E := by rw [← Nat.add_mul]; exact Nat.mul_le_mul_right _ (by omega)
          omega
        · exact g
    · rw [if_neg c2]
      obtain ⟨K, hK⟩ := ex_in hV
      have k1 := (C K).2 hK.1
      have k2 := (F K (by omega)).2 hK.2
      exact ⟨_, I _ (Nat.le_refl _) (by omega), .inl rfl⟩
end Rb
end Go.Proofs.YtciigfaojmpoiaaGreatDoor
namespace Go.Proofs.YtciigfaojmpoiaaGreatDoor
open Go Go.RowKit
set_option linter.all false
namespace Rb
open Us
open Ft hiding V
open Ie (V V_lt V_le V_inj)
set_option exponentiation.threshold 20000
/-- the number n/d, in units of 2^-1074, rounds to the float b above 0 -/
def Inv (b n d : Nat) : Prop := lo (b % 2) ((V (b - 1) + V b) * d) (2 * n) ∧ lo (b % 2) (2 * n) ((V b + V (b + 1)) * d)
theorem inv_le {b r n d : Nat} (hb : 0 < b) (hd : 0 < d) (h : Inv b n d) (k : Inv r n d) (g : b < r) : False := by
  have h2 := lo_le h.2
  have k1 := lo_le k.1
  have h3 : (V (r - 1) + V r) * d ≤ (V b + V (b + 1)) * d := by omega
  have h4 := Nat.le_of_mul_le_mul_right h3 hd
  have v1 : V b ≤ V (r - 1) := V_le.2 (by omega)
  have v2 : V (b + 1) ≤ V r := V_le.2 (by omega)
  have e1 : V b = V (r - 1) := by omega
  have e2 := V_inj e1
  have hr : r = b + 1 := by omega
  subst hr
  have q1 := h.2
  have q2 := k.1
  rw [Nat.add_sub_cancel] at q2 k1
  unfold lo at q1 q2
  rcases (show b % 2 = 0 ∨ b % 2 = 1 by omega) with o | o
  · rw [if_neg (by omega)] at q2; omega
  · rw [if_neg (by omega)] at q1; omega
/-- ONE FLOAT ALONE -/
theorem inv_uniq {b r n d : Nat} (hb : 0 < b) (hr : 0 < r) (hd : 0 < d) (h : Inv b n d) (k : Inv r n d) : b = r := by
  rcases Nat.lt_trichotomy b r with g | g | g
  · exact (inv_le hb hd h k g).elim
  · exact g
  · exact (inv_le hr hd k h g).elim
theorem lo_mul {o a b c : Nat} (hc : 0 < c) : lo o (a * c) (b * c) ↔ lo o a b := by
  unfold lo
  split
  · exact mul_le_q hc
  · exact mul_lt_q hc
/-- the same number otherwise written -/
theorem inv_same {b n d n' d' : Nat} (hd : 0 < d) (hd' : 0 < d') (e : n * d' = n' * d) (h : Inv b n d) : Inv b n' d' := by
  obtain ⟨h1, h2⟩ := h
  have e2 : 2 * n * d' = 2 * n' * d := by rw [Nat.mul_assoc, e, Nat.mul_assoc]
  refine ⟨(lo_mul hd).1 ?_, (lo_mul hd).1 ?_⟩
  · rw [← e2, Nat.mul_right_comm (V (b - 1) + V b)]; exact (lo_mul hd').2 h1
  · rw [← e2, Nat.mul_right_comm (V b + V (b + 1))]; exact (lo_mul hd').2 h2
theorem V_norm {b : Nat} (h : 4503599627370496 ≤ b) : V b = (4503599627370496 + b % 4503599627370496) * 2 ^ (b / 4503599627370496 - 1) := by unfold V; rw [if_neg (by omega)]
theorem V_sub {b : Nat} (h : b ≤ 4503599627370496) : V b = b := by
  unfold V
  split
  · rfl
  · have : b = 4503599627370496 := by omega
    subst this
    rfl
/-- the middles to the neighbours, at the scale of the formatting -/
theorem mids {b : Nat} (h0 : 0 < b) (h1 : b < 9218868437227405312) :
    (V (b - 1) + V b) * 2 ^ 100 = mnO (mO b) (EO b) * 2 ^ (EO b + 1175).toNat ∧ (V b + V (b + 1)) * 2 ^ 100 = mxO (mO b) (EO b) * 2 ^ (EO b + 1175).toNat ∧ odO (mO b) (EO b) = b % 2 := by
  by_cases g : b < 4503599627370496
  · -- below the least normal number
    have hex : exO b = 0 := by unfold exO; omega
    have hma : maO b = b := by unfold maO; rw [if_pos hex]; omega
    obtain ⟨b1, b2, b3⟩ := Lib.bitLenAux_bounds 64 b (by omega) (by omega)
    have b2' : 2 ^ (Lib.bitLen b - 1) ≤ b := b2
    have b1' : 1 ≤ Lib.bitLen b := b1
    have h52 : Lib.bitLen b ≤ 52 := by
      have : Lib.bitLen b - 1 < 52 := (Nat.pow_lt_pow_iff_right (show 1 < 2 by decide)).1 (Nat.lt_of_le_of_lt b2' (show b < 2 ^ 52 from g))
      omega
    obtain ⟨t, ht⟩ : ∃ t, 64 - Lib.bitLen b = t + 1 := ⟨63 - Lib.bitLen b, by omega⟩
    have hsh : shO b = t + 1 := by unfold shO; rw [hma, ht]
    have hE : EO b = -1075 - (t : Int) := by unfold EO; rw [hex, hsh]; simp; omega
    have hm : mO b = b * 2 ^ (t + 1) := by unfold mO; rw [hma, hsh]
    have hz : zO (EO b) = t + 1 := by unfold zO; rw [hE, if_neg (by omega)]; omega
    have he : edge (mO b) (EO b) = false := by unfold edge; rw [decide_eq_false (by omega : ¬ -1085 < EO b), Bool.and_false]
    have hp : (2 : Nat) ^ (t + 1) = 2 ^ t * 2 := Nat.pow_succ ..
    have hx : 2 ^ t * 2 ^ (EO b + 1175).toNat = 2 ^ 100 := by rw [← Nat.pow_add, hE, show t + (-1075 - (t : Int) + 1175).toNat = 100 by omega]
    have hmn : mnO (mO b) (EO b) = 2 ^ t * (2 * b - 1) := by
      unfold mnO
      rw [if_neg (by rw [he]; decide), hz, hm, Nat.add_sub_cancel, hp, Nat.mul_sub, Nat.mul_one, ← Nat.mul_assoc]
      congr 1
      rw [Nat.mul_comm b, Nat.mul_assoc, Nat.mul_comm b 2]
    have hmx : mxO (mO b) (EO b) = 2 ^ t * (2 * b + 1) := by
      unfold mxO
      rw [if_neg (by rw [he]; decide), hz, hm, Nat.add_sub_cancel, hp, Nat.mul_add, Nat.mul_one, ← Nat.mul_assoc]
      congr 1
      rw [Nat.mul_comm b, Nat.mul_assoc, Nat.mul_comm b 2]
    refine ⟨?_, ?_, ?_⟩
    · rw [V_sub (by omega), V_sub (by omega), hmn, Nat.mul_right_comm, hx, Nat.mul_comm]
      congr 1; omega
    · rw [V_sub (by omega), V_sub (by omega), hmx, Nat.mul_right_comm, hx, Nat.mul_comm]
      congr 1; omega
    · unfold odO
      rw [hz, hm, Nat.mul_div_cancel _ (Nat.pow_pos (by decide))]
  · obtain ⟨ex, hxq⟩ : ∃ ex, b / 4503599627370496 = ex + 1 := ⟨b / 4503599627370496 - 1, by omega⟩
    obtain ⟨f, hf⟩ : ∃ f, b % 4503599627370496 = f := ⟨_, rfl⟩
    have hb : b = (ex + 1) * 4503599627370496 + f := by omega
    have hf1 : f < 4503599627370496 := by omega
    have hex : exO b = ex + 1 := hxq
    have hma : maO b = f + 4503599627370496 := by unfold maO; rw [if_neg (by omega), hf]
    have hbl : Lib.bitLen (f + 4503599627370496) = 53 := bitLen_eq (k := 52) (by omega) (by omega) (by omega)
    have hsh : shO b = 11 := by unfold shO; rw [hma, hbl]
    have hE : EO b = (ex : Int) - 1085 := by unfold EO; rw [hex, hsh, if_neg (by omega)]; omega
    have hm : mO b = (f + 4503599627370496) * 2048 := by unfold mO; rw [hma, hsh]
    have hz : zO (EO b) = 11 := by unfold zO; rw [hE, if_pos (by omega)]
    have hVb : V b = (4503599627370496 + f) * 2 ^ ex := by rw [V_norm (by omega), hf, hxq, Nat.add_sub_cancel]
    have hVs : V (b + 1) = (4503599627370496 + f) * 2 ^ ex + 2 ^ ex := by
      by_cases k : f + 1 < 4503599627370496
      · have d1 : (b + 1) / 4503599627370496 = ex + 1 := by omega
        have d2 : (b + 1) % 4503599627370496 = f + 1 := by omega
        rw [V_norm (by omega), d1, d2, Nat.add_sub_cancel, ← Nat.add_assoc, Nat.add_mul _ 1, Nat.one_mul]
      · have d1 : (b + 1) / 4503599627370496 = ex + 2 := by omega
        have d2 : (b + 1) % 4503599627370496 = 0 := by omega
        rw [V_norm (by omega), d1, d2, show ex + 2 - 1 = ex + 1 by omega, Nat.pow_succ]
        have : f = 4503599627370495 := by omega
        rw [this]
        omega
    have hx : 2 ^ (EO b + 1175).toNat = 2 ^ ex * 2 ^ 90 := by rw [← Nat.pow_add, hE]; congr 1; omega
    have hodd : odO (mO b) (EO b) = b % 2 := by
      unfold odO
      rw [hz, hm, show (2 : Nat) ^ 11 = 2048 by decide, Nat.mul_div_cancel _ (by decide)]
      omega
    have hmx : mxO (mO b) (EO b) = mO b + 1024 := by unfold mxO; rw [hz]; split <;> rfl
    refine ⟨?_, ?_, hodd⟩
    · rcases he : edge (mO b) (EO b) with _ | _
      · have hmn : mnO (mO b) (EO b) = mO b - 1024 := by unfold mnO; rw [he, hz]; rfl
        have hVp : V (b - 1) + 2 ^ ex = V b := by
          rcases Nat.eq_zero_or_pos f with k | k
          · have : ex = 0 := by
              rcases Nat.eq_zero_or_pos ex with j | j
              · exact j
              · exfalso
                unfold edge at he
                rw [decide_eq_true (by rw [hm]; omega : mO b = 9223372036854775808), decide_eq_true (by omega : -1085 < EO b)] at he
                cases he
            subst this
            subst k
            rw [V_sub (by omega), V_sub (by omega)]
            omega
          · have d1 : (b - 1) / 4503599627370496 = ex + 1 := by omega
            have d2 : (b - 1) % 4503599627370496 = f - 1 := by omega
            rw [V_norm (b := b - 1) (by omega), d1, d2, hVb, Nat.add_sub_cancel]
            obtain ⟨j, rfl⟩ : ∃ j, f = j + 1 := ⟨f - 1, by omega⟩
            rw [Nat.add_sub_cancel, ← Nat.add_assoc, Nat.add_mul _ 1, Nat.one_mul]
        rw [hmn, hx, hm]
        generalize 2 ^ ex = X at *
        rw [hVb] at hVp ⊢
        have e1 : ((f + 4503599627370496) * 2048 - 1024) * (X * 2 ^ 90) = (2 * (f + 4503599627370496) - 1) * X * 2 ^ 100 := by
          rw [show (f + 4503599627370496) * 2048 - 1024 = (2 * (f + 4503599627370496) - 1) * 1024 by omega, show (2 : Nat) ^ 100 = 1024 * 2 ^ 90 by decide]
          rw [Nat.mul_assoc, Nat.mul_assoc]
          congr 1
          rw [← Nat.mul_assoc, Nat.mul_comm 1024 X, Nat.mul_assoc]
        rw [e1]
        congr 1
        rw [Nat.sub_mul, Nat.one_mul, Nat.mul_assoc, Nat.add_comm f]
        omega
      · have hmn : mnO (mO b) (EO b) = mO b - 512 := by unfold mnO; rw [he]; rfl
        have ⟨hf0, hE0⟩ : f = 0 ∧ 0 < ex := by
          unfold edge at he
          simp only [Bool.and_eq_true, decide_eq_true_eq] at he
          omega
        obtain ⟨j, rfl⟩ : ∃ j, ex = j + 1 := ⟨ex - 1, by omega⟩
        subst hf0
        have d1 : (b - 1) / 4503599627370496 = j + 1 := by omega
        have d2 : (b - 1) % 4503599627370496 = 4503599627370495 := by omega
        have hVp : V (b - 1) = (4503599627370496 + 4503599627370495) * 2 ^ j := by rw [V_norm (by omega), d1, d2, Nat.add_sub_cancel]
        rw [hmn, hx, hm, hVp, hVb, Nat.pow_succ]
        generalize 2 ^ j = X at *
        omega
    · rw [hmx, hx, hm, hVs, hVb]
      generalize 2 ^ ex = X at *
      have e1 : ((f + 4503599627370496) * 2048 + 1024) * (X * 2 ^ 90) = (2 * (f + 4503599627370496) + 1) * X * 2 ^ 100 := by
        rw [show (f + 4503599627370496) * 2048 + 1024 = (2 * (f + 4503599627370496) + 1) * 1024 by omega, show (2 : Nat) ^ 100 = 1024 * 2 ^ 90 by decide]
        rw [Nat.mul_assoc, Nat.mul_assoc]
        congr 1
        rw [← Nat.mul_assoc, Nat.mul_comm 1024 X, Nat.mul_assoc]
      rw [e1]
      congr 1
      rw [Nat.add_mul (2 * _) 1, Nat.one_mul, Nat.mul_assoc, Nat.add_comm f]
      omega
end Rb
end Go.Proofs.YtciigfaojmpoiaaGreatDoor
namespace Go.Proofs.YtciigfaojmpoiaaGreatDoor
open Go Go.RowKit
set_option linter.all false
namespace Rb
open Us P10
open Ft hiding V
open Ie (V V_lt V_le V_inj)
set_option exponentiation.threshold 20000
theorem exps {E p : Int} (hs : 0 ≤ -(E + lg p + 3)) (hE : -1175 ≤ E) : 2 + ((-(E + lg p + 3)).toNat + (128 + (lg p - 127).toNat)) + (E + 1175).toNat = 1075 + (100 + (127 - lg p).toNat) := by omega
theorem side {m vs D Q10 P10' : Nat} {s e a be : Nat} (hm : vs * 2 ^ 100 = m * 2 ^ e) (he : 2 + (s + (128 + be)) + e = 1075 + (100 + a)) (K : Nat → Nat → Prop)
    (hK : ∀ x y c, 0 < c → (K (x * c) (y * c) ↔ K x y)) : (K (m * (P10' * 2 ^ a)) (4 * D * (2 ^ s * (340282366920938463463374607431768211456 * (Q10 * 2 ^ be)))) ↔ K (vs * P10') (2 * (D * Q10 * 2 ^ 1074))) := by
  have h0 : 0 < 2 ^ e := Nat.pow_pos (by decide)
  have h1 : 0 < 2 ^ (100 + a) := Nat.pow_pos (by decide)
  rw [← hK _ _ _ h0, ← hK (vs * P10') _ _ h1]
  have e1 : m * (P10' * 2 ^ a) * 2 ^ e = vs * P10' * 2 ^ (100 + a) := by
    calc m * (P10' * 2 ^ a) * 2 ^ e = m * 2 ^ e * (P10' * 2 ^ a) := Nat.mul_right_comm _ _ _
      _ = vs * 2 ^ 100 * (P10' * 2 ^ a) := by rw [hm]
      _ = vs * P10' * (2 ^ 100 * 2 ^ a) := by rw [Nat.mul_assoc, Nat.mul_assoc, Nat.mul_left_comm (2 ^ 100)]
      _ = vs * P10' * 2 ^ (100 + a) := by rw [← Nat.pow_add]
  have e2 : 4 * D * (2 ^ s * (340282366920938463463374607431768211456 * (Q10 * 2 ^ be))) * 2 ^ e = 2 * (D * Q10 * 2 ^ 1074) * 2 ^ (100 + a) := by
    have f1 : (4 : Nat) = 2 ^ 2 := rfl
    have f2 : (340282366920938463463374607431768211456 : Nat) = 2 ^ 128 := rfl
    have f3 : 2 * (D * Q10 * 2 ^ 1074) = D * Q10 * 2 ^ 1075 := by rw [Nat.mul_left_comm, ← Nat.pow_succ']
    calc 4 * D * (2 ^ s * (340282366920938463463374607431768211456 * (Q10 * 2 ^ be))) * 2 ^ e = D * Q10 * (2 ^ 2 * (2 ^ s * (2 ^ 128 * 2 ^ be)) * 2 ^ e) := by
          rw [f1, f2]
          generalize 2 ^ 2 = A
          generalize 2 ^ s = B
          generalize 2 ^ 128 = C
          generalize 2 ^ be = F
          generalize 2 ^ e = G
          simp only [Nat.mul_assoc, Nat.mul_comm, Nat.mul_left_comm]
      _ = D * Q10 * (2 ^ (2 + (s + (128 + be)) + e)) := by rw [← Nat.pow_add, ← Nat.pow_add, ← Nat.pow_add, ← Nat.pow_add]
      _ = D * Q10 * (2 ^ (1075 + (100 + a))) := by rw [he]
      _ = D * Q10 * (2 ^ 1075 * 2 ^ (100 + a)) := by rw [Nat.pow_add 2 1075]
      _ = 2 * (D * Q10 * 2 ^ 1074) * 2 ^ (100 + a) := by rw [f3, Nat.mul_assoc (D * Q10)]
  rw [e1, e2]
/-- D digits at the power p round to b -/
theorem in_inv {b D : Nat} (h0 : 0 < b) (h1 : b < 9218868437227405312) (h : inI (mO b) (EO b) D) : Inv b (D * 10 ^ (-pO (mO b) (EO b)).toNat * 2 ^ 1074) (10 ^ (pO (mO b) (EO b)).toNat) := by
  obtain ⟨hV, -, -⟩ := v_of h0 h1
  obtain ⟨p0, p1, s0, s1⟩ := hV.p
  have e0 := hV.e0
  obtain ⟨m1, m2, m3⟩ := mids h0 h1
  obtain ⟨i1, i2⟩ := h
  rw [m3] at i1 i2
  have he := exps (E := EO b) (p := pO (mO b) (EO b)) (by omega) (by omega)
  unfold QO sO nt dt at i1 i2
  generalize pO (mO b) (EO b) = p at *
  refine ⟨?_, ?_⟩
  · exact (side m1 he (lo (b % 2)) (fun x y c hc => lo_mul hc)).1 i1
  · exact (side m2 he (fun x y => lo (b % 2) y x) (fun x y c hc => lo_mul hc)).1 i2
/-- THE SHORTEST DIGITS ROUND TO THEIR FLOAT -/
theorem fmt_inv {b : Nat} (h0 : 0 < b) (h1 : b < 9218868437227405312) : Inv b ((dO Hi0 Lo0 b).1 * 10 ^ (dO Hi0 Lo0 b).2.toNat * 2 ^ 1074) (10 ^ (-(dO Hi0 Lo0 b).2).toNat) := by
  obtain ⟨hV, -, -⟩ := v_of h0 h1
  obtain ⟨D, hI, hs⟩ := sh_in hV
  have hi := in_inv h0 h1 hI
  unfold dO
  generalize pO (mO b) (EO b) = p at *
  have hp : ∀ k, 0 < 10 ^ k := fun k => Nat.pow_pos (by decide)
  rcases hs with hs | ⟨D', e, hs⟩
  · rw [hs]
    show Inv b (D * 10 ^ (-p).toNat * 2 ^ 1074) (10 ^ (- -p).toNat)
    rw [Int.neg_neg]
    exact hi
  · rw [hs]
    show Inv b (D' * 10 ^ (-(p - 1)).toNat * 2 ^ 1074) (10 ^ (- -(p - 1)).toNat)
    rw [Int.neg_neg]
    refine inv_same (hp _) (hp _) ?_ hi
    rw [e]
    generalize 2 ^ 1074 = T
    by_cases g : 1 ≤ p
    · rw [show (-p).toNat = 0 by omega, show (-(p - 1)).toNat = 0 by omega, show p.toNat = (p - 1).toNat + 1 by omega, Nat.pow_succ]
      generalize 10 ^ (p - 1).toNat = A
      simp only [Nat.pow_zero, Nat.mul_one]
      simp only [Nat.mul_assoc, Nat.mul_comm, Nat.mul_left_comm]
    · rw [show (p - 1).toNat = 0 by omega, show p.toNat = 0 by omega, show (-(p - 1)).toNat = (-p).toNat + 1 by omega, Nat.pow_succ]
      generalize 10 ^ (-p).toNat = A
      simp only [Nat.pow_zero, Nat.mul_one]
      simp only [Nat.mul_assoc, Nat.mul_comm, Nat.mul_left_comm]
end Rb
end Go.Proofs.YtciigfaojmpoiaaGreatDoor
