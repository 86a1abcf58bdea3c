/- Layer 4: Whole cuts a number toward 0; a number as a length. Layer 8: the length that a number says. -/
import Derived.Test.YtfophnmnehpenaaDoorHA2
namespace Go.Proofs.YtfophnmnehpenaaDoor
open Go Go.RowKit
set_option linter.all false
theorem datum_self (d : Ieee.Datum) (h : d.order d ≠ some .eq) : ∃ s t, d = .nan s t := by
  cases d with
  | number s m i => exact absurd (by simp [Ieee.Datum.order]) h
  | infinity s => exact absurd (by simp [Ieee.Datum.order]) h
  | nan s t => exact ⟨s, t, rfl⟩
theorem nan_order (s : Bool) (t : Nat) (d : Ieee.Datum) : (Ieee.Datum.nan s t).order d = none := by cases d <;> rfl
theorem trunc_ext (x : Nat) (h : nanB x = false) (w : World) : (Go.Extern.MathFloor.toIntegral "math.archTrunc" .zero #[.float .f64 x]).run Tryd.prog w = .ok (.float .f64 (FloatKind.f64.encode ((FloatKind.f64.decode x).integral .zero))) w := by
  unfold nanB at h
  have e : FloatKind.f64.format.order x x = (FloatKind.f64.decode x).order (FloatKind.f64.decode x) := rfl
  rw [e] at h
  conv => lhs; arg 2; whnf
  rcases hd : FloatKind.f64.decode x with ⟨s, m, i⟩ | s | ⟨s, t⟩
  · rfl
  · rfl
  · rw [hd, nan_order] at h
    simp at h
theorem trunc_any (x : Nat) (h : nanB x = false) (w : World) : Calls Tryd.prog 58 #[.float .f64 x] w fun e w' => e = .returned (.float .f64 (FloatKind.f64.encode ((FloatKind.f64.decode x).integral .zero))) ∧ w = w' := by
  have h6 := @run_callFunc_extern Tryd.prog 64 _ (Go.Extern.MathFloor.toIntegral "math.archTrunc" .zero) Tryd.func64 (by kernel_rfl) (by kernel_rfl) (by kernel_rfl) (by kernel_rfl)
  have fb := trunc_ext x h
  go_enter Tryd.func58, Tryd.ntmps58
  go_wp2
  go_ret
  exact ⟨rfl, rfl⟩
theorem whole_any (x : Nat) (w : World) : Calls Tryd.prog 41 #[.float .f64 x] w fun e w' => e = .returned (.float .f64 (wholeB x)) ∧ w = w' := by
  unfold wholeB
  obtain ⟨b, hb⟩ : ∃ b, nanB x = b := ⟨_, rfl⟩
  have hb' : (FloatKind.f64.format.order x x != some Ordering.eq) = b := hb
  have T := fun hn => trunc_any x hn w
  rw [hb] at T ⊢
  rcases b with _ | _
  · have T' := T rfl
    clear T hb
    go_enter Tryd.func41, Tryd.ntmps41
    go_wp2_with fail
    refine T'.mono ?_
    rintro e w' ⟨rfl, rfl⟩
    go_wp2
    go_ret
    exact ⟨by simp, rfl⟩
  · clear T hb
    go_enter Tryd.func41, Tryd.ntmps41
    go_wp2
    go_ret
    exact ⟨by simp, rfl⟩
end Go.Proofs.YtfophnmnehpenaaDoor
namespace Go.Proofs.YtfophnmnehpenaaDoor
open Go Go.RowKit
set_option linter.all false
theorem cut_zero (s : Bool) (N drop B : Nat) (h : N < B * 2 ^ drop) : Ieee.Toward.zero.cut s N drop < max B 1 := by
  unfold Ieee.Toward.cut
  simp only [Bool.toNat_false, Nat.add_zero, Nat.shiftLeft_eq, Nat.one_mul]
  by_cases hd : drop ≤ N.log2 + 2
  · rw [Nat.min_eq_left hd]
    have : N / 2 ^ drop < B := (Nat.div_lt_iff_lt_mul (Nat.two_pow_pos _)).2 h
    omega
  · rw [Nat.min_eq_right (by omega)]
    have h1 : N < 2 ^ (N.log2 + 2) := by
      have h2 : N < 2 ^ (N.log2 + 1) := Nat.lt_log2_self
      have h3 : 2 ^ (N.log2 + 1) ≤ 2 ^ (N.log2 + 2) := Nat.pow_le_pow_right (by decide) (by omega)
      omega
    rw [Nat.div_eq_of_lt h1]
    omega
theorem signed_nonneg {s : Bool} {m k : Nat} (h : ¬ Ieee.signed s m k < 0) : s = false ∨ m = 0 := by
  cases s with
  | false => exact .inl rfl
  | true =>
    right
    unfold Ieee.signed at h
    simp only [if_true, Nat.shiftLeft_eq] at h
    have : m * 2 ^ k = 0 := by omega
    rcases Nat.mul_eq_zero.1 this with h | h
    · exact h
    · exact absurd h (Nat.pos_iff_ne_zero.1 (Nat.two_pow_pos _))
theorem cmp_lt {a b : Int} (h : ¬ some (compare a b) = some Ordering.lt) : ¬ a < b := fun hlt => h (by rw [Int.compare_eq_lt.2 hlt])
theorem zero_datum : FloatKind.f64.decode 0 = .number false 0 (-1074) := by kernel_rfl
theorem most_datum : FloatKind.f64.decode 4746794007244308480 = .number false (2147483647 * 2 ^ 22) (-22) := by kernel_rfl
theorem toInt_small (d : Ieee.Datum) (hn : d.order d = some .eq) (h0 : ¬ d.order (FloatKind.f64.decode 0) = some .lt) (h1 : ¬ (FloatKind.f64.decode 4746794007244308480).order d = some .lt) : ∃ n : Nat, d.toInt .zero = some (n : Int) ∧ n ≤ 2147483647 := by
  rw [zero_datum] at h0
  rw [most_datum] at h1
  cases d with
  | nan s t => rw [nan_order] at hn; cases hn
  | infinity s =>
    exfalso
    simp only [Ieee.Datum.order] at h0 h1
    cases s <;> simp at h0 h1
  | number s m i =>
    simp only [Ieee.Datum.order] at h0 h1
    have e0 := cmp_lt h0
    have e1 := cmp_lt h1
    have z : ∀ k, Ieee.signed false 0 k = 0 := fun k => by simp [Ieee.signed]
    rw [z] at e0
    have hs := signed_nonneg e0
    have hpos : ∀ k, Ieee.signed s m k = ((m * 2 ^ k : Nat) : Int) := fun k => by
      rcases hs with rfl | rfl
      · simp [Ieee.signed, Nat.shiftLeft_eq]
      · cases s <;> simp [Ieee.signed]
    rw [hpos] at e1
    have hM : ∀ k, Ieee.signed false (2147483647 * 2 ^ 22) k = ((2147483647 * 2 ^ 22 * 2 ^ k : Nat) : Int) := fun k => by simp [Ieee.signed, Nat.shiftLeft_eq]
    rw [hM] at e1
    have e2 : m * 2 ^ (i - min (-22) i).toNat ≤ 2147483647 * 2 ^ 22 * 2 ^ (-22 - min (-22) i).toNat := by omega
    clear e0 e1 h0 h1 hn hM
    obtain ⟨N, hN⟩ : ∃ N, Ieee.Toward.zero.cut s (m <<< i.toNat) (-i).toNat = N := ⟨_, rfl⟩
    have hb : N < 2147483648 := by
      have := cut_zero s (m <<< i.toNat) (-i).toNat 2147483648 ?_
      · rw [hN] at this; omega
      · rw [Nat.shiftLeft_eq]
        by_cases hi : i < -22
        · have a1 : min (-22) i = i := by omega
          rw [a1, Int.sub_self] at e2
          have a2 : i.toNat = 0 := by omega
          rw [a2]
          have a3 : (-i).toNat = 22 + (-22 - i).toNat := by omega
          rw [a3, Nat.pow_add]
          simp only [Int.toNat_zero, Nat.pow_zero, Nat.mul_one] at e2 ⊢
          have := Nat.two_pow_pos (-22 - i).toNat
          have a4 : 2147483647 * 2 ^ 22 * 2 ^ (-22 - i).toNat < 2147483648 * (2 ^ 22 * 2 ^ (-22 - i).toNat) := by
            rw [Nat.mul_assoc]
            exact Nat.mul_lt_mul_of_pos_right (by decide) (Nat.mul_pos (by decide) this)
          omega
        · have a1 : min (-22) i = -22 := by omega
          rw [a1] at e2
          simp only [Int.sub_self, Int.toNat_zero, Nat.pow_zero, Nat.mul_one] at e2
          have a5 : (i - -22).toNat + (-i).toNat = 22 + i.toNat := by omega
          by_cases hi0 : 0 ≤ i
          · have a6 : (-i).toNat = 0 := by omega
            have a7 : (i - -22).toNat = 22 + i.toNat := by omega
            rw [a7, Nat.pow_add, ← Nat.mul_assoc, Nat.mul_right_comm] at e2
            rw [a6]
            have a8 : m * 2 ^ i.toNat ≤ 2147483647 := Nat.le_of_mul_le_mul_right e2 (by decide)
            omega
          · have a6 : i.toNat = 0 := by omega
            rw [a6]
            have a7 : (i - -22).toNat + (-i).toNat = 22 := by omega
            have a8 : m * 2 ^ (i - -22).toNat < 2147483648 * 2 ^ (-i).toNat * 2 ^ (i - -22).toNat := by
              rw [Nat.mul_assoc, ← Nat.pow_add, Nat.add_comm (-i).toNat, a7]
              exact Nat.lt_of_le_of_lt e2 (by decide)
            have := Nat.lt_of_mul_lt_mul_right a8
            simpa using this
    refine ⟨N, ?_, by omega⟩
    unfold Ieee.Datum.toInt Ieee.Datum.integral
    simp only [hN]
    congr 1
    rcases hs with rfl | rfl
    · simp [Ieee.signed]
    · have : N = 0 := by
        rw [← hN]
        have := cut_zero s (0 <<< i.toNat) (-i).toNat 0 
        simp [Ieee.Toward.cut]
      rw [this]
      cases s <;> simp [Ieee.signed]
theorem eq_self_of {d e : Ieee.Datum} (h : d.order e = some .eq) : e.order e = some .eq := by
  cases e with
  | number s m i => simp [Ieee.Datum.order]
  | infinity s => simp [Ieee.Datum.order]
  | nan s t => cases d <;> cases h
theorem order_swap {d e : Ieee.Datum} (h : d.order e = some .lt) : e.order d = some .gt := by
  cases d with
  | nan s t => rw [nan_order] at h; cases h
  | infinity s =>
    cases e with
    | nan s t => cases h
    | infinity t => cases s <;> cases t <;> simp [Ieee.Datum.order] at h ⊢ <;> first | rfl | (exact absurd h (by decide))
    | number t n j => cases s <;> simp [Ieee.Datum.order] at h ⊢
  | number s m i =>
    cases e with
    | nan s t => cases h
    | infinity t => cases t <;> simp [Ieee.Datum.order] at h ⊢
    | number t n j =>
      simp only [Ieee.Datum.order, Option.some.injEq] at h ⊢
      rw [Int.compare_eq_lt] at h
      rw [Int.compare_eq_gt, Int.min_comm j i]
      exact h
theorem lenOf_some {v : Va} {n : Nat} (h : lenOf v = some n) : v.kind = 3 ∧ eqB (wholeB v.num) v.num = true ∧ ltB v.num 0 = false ∧ gtB v.num 4746794007244308480 = false ∧ (FloatKind.f64.decode v.num).toInt .zero = some (n : Int) ∧ n ≤ 2147483647 := by
  unfold lenOf at h
  split at h
  · next hc =>
    obtain ⟨h1, h2, h3, h4⟩ := hc
    have e : FloatKind.f64.format.order (wholeB v.num) v.num = some .eq := by unfold eqB at h2; simpa using h2
    obtain ⟨k, hk, hle⟩ := toInt_small (FloatKind.f64.decode v.num) (eq_self_of (d := FloatKind.f64.decode (wholeB v.num)) e) (fun hl => by unfold ltB at h3; rw [show FloatKind.f64.format.order v.num 0 = some .lt from hl] at h3; simp at h3) (fun hl => by unfold gtB at h4; rw [show FloatKind.f64.format.order v.num 4746794007244308480 = some .gt from order_swap hl] at h4; simp at h4)
    rw [hk] at h
    simp at h
    subst h
    exact ⟨h1, h2, h3, h4, hk, hle⟩
  · cases h
theorem lenOf_none {v : Va} (h : lenOf v = none) : ¬ v.kind = 3 ∨ eqB (wholeB v.num) v.num = false ∨ ltB v.num 0 = true ∨ gtB v.num 4746794007244308480 = true := by
  unfold lenOf at h
  split at h
  · cases h
  · next hc =>
    by_cases h1 : v.kind = 3
    · rcases h2 : eqB (wholeB v.num) v.num with _ | _
      · exact .inr (.inl rfl)
      · rcases h3 : ltB v.num 0 with _ | _
        · rcases h4 : gtB v.num 4746794007244308480 with _ | _
          · exact absurd ⟨h1, h2, h3, h4⟩ hc
          · exact .inr (.inr (.inr rfl))
        · exact .inr (.inr (.inl rfl))
    · exact .inl h1
end Go.Proofs.YtfophnmnehpenaaDoor
