/- The document's digits of a number. -/
import Derived.Test.YtfophnmnehpenaaDoorHu
import Derived.Test.YtfophnmnehpenaaDoorHpPure
import Derived.Deep.DeepCutAuto
namespace Go.Proofs.YtfophnmnehpenaaDoor
open Go Go.RowKit
set_option linter.all false
theorem dec_step {u : Nat} (h : ¬ u < 10) : Lib.decDigits u = Lib.decDigits (u / 10) ++ [UInt8.ofNat (48 + u % 10)] := by rw [Lib.decDigits, dif_neg h]
theorem dec_last {u : Nat} (h : u < 10) : Lib.decDigits u = [UInt8.ofNat (48 + u % 10)] := by rw [Lib.decDigits, dif_pos h, Nat.mod_eq_of_lt h]
theorem B8_dig (d : Nat) : B8 (48 + (d : Int)) = UInt8.ofNat (48 + d) := by
  unfold B8
  congr 1
theorem dec_len (u : Nat) (h : u ≤ 9223372036854775808) : (Lib.decDigits u).length ≤ 19 := by
  rw [Lib.decDigits_length]
  have : ∀ (k u : Nat), u < 10 ^ (k + 1) → Lib.nDigits u ≤ k + 1 := by
    intro k
    induction k with
    | zero => intro u h; rw [Lib.nDigits_small (by simpa using h)]; exact Nat.le_refl _
    | succ k ih =>
      intro u h
      by_cases g : u < 10
      · rw [Lib.nDigits_small g]; omega
      · rw [Lib.nDigits_big g]
        have := ih (u / 10) (by rw [Nat.pow_succ] at h; omega)
        omega
  exact this 18 u (by omega)
set_option maxRecDepth 100000 in
set_option maxHeartbeats 4000000 in
theorem rdigits_pos (n : Nat) (w : World) (hn : n ≤ 9223372036854775807) :
    Calls Tryd.prog 36 #[.int .i64 n] w fun e w' => e = .returned (.string ⟨(Lib.decDigits n).toArray⟩) ∧ Pur w w' := by
  have d0 : decide ((n : Int) < 0) = false := decide_eq_false (by omega)
  have hlen := dec_len n (by omega)
  go_enter Tryd.func36, Tryd.ntmps36
  go_wp2
  go_loopw [0, 3] (fun m s wr => ∃ (u : Nat) (acc : Bytes), m = .int .i64 u ∧ s = .string ⟨acc.toArray⟩ ∧ u ≤ n ∧ Pur w wr ∧ Hid (Lib.decDigits n = Lib.decDigits u ++ acc)) (fun m _ _ => (intOf m).toNat)
  case atStart => exact ⟨n, [], rfl, rfl, Nat.le_refl _, Pur.refl w, Lib.hid (by simp)⟩
  case round =>
    obtain ⟨u, acc, rfl, rfl, hu, hpr, H⟩ := hrel
    have e1 : (u : Int).tmod 10 = ((u % 10 : Nat) : Int) := by rw [Int.tmod_eq_emod_of_nonneg (by omega)]; omega
    have e2 : (u : Int).tdiv 10 = ((u / 10 : Nat) : Int) := by rw [Int.tdiv_eq_ediv_of_nonneg (by omega)]; omega
    have hal : acc.length ≤ 19 := by
      have := congrArg List.length H.out
      rw [List.length_append] at this
      omega
    by_cases h10 : u < 10
    · have HS := Lib.hid (show Lib.decDigits n = UInt8.ofNat (48 + u % 10) :: acc by rw [H.out, dec_last h10]; rfl)
      have z : u / 10 = 0 := by omega
      go_wp2
      go_ret
      exact ⟨by rw [HS.out]; rfl, hpr.alloc _⟩
    · have HS := Lib.hid (show Lib.decDigits n = Lib.decDigits (u / 10) ++ (UInt8.ofNat (48 + u % 10) :: acc) by rw [H.out, dec_step h10]; simp)
      go_wp2
      go_roundw
      case rel => exact ⟨u / 10, _, by go_num, rfl, by omega, hpr.alloc _, HS⟩
      case measure => simp [intOf]; omega
set_option maxRecDepth 100000 in
set_option maxHeartbeats 4000000 in
theorem rdigits_neg (n : Nat) (w : World) (h0 : 0 < n) (hn : n ≤ 9223372036854775808) :
    Calls Tryd.prog 36 #[.int .i64 (-(n : Int))] w fun e w' => e = .returned (.string ⟨(45 :: Lib.decDigits n).toArray⟩) ∧ Pur w w' := by
  have d0 : decide (-(n : Int) < 0) = true := decide_eq_true (by omega)
  have hlen := dec_len n (by omega)
  go_enter Tryd.func36, Tryd.ntmps36
  go_wp2
  go_loopw [0, 3] (fun m s wr => ∃ (u : Nat) (acc : Bytes), m = .int .i64 (-(u : Int)) ∧ s = .string ⟨acc.toArray⟩ ∧ u ≤ n ∧ Pur w wr ∧ Hid (Lib.decDigits n = Lib.decDigits u ++ acc)) (fun m _ _ => (-(intOf m)).toNat)
  case atStart => exact ⟨n, [], rfl, rfl, Nat.le_refl _, Pur.refl w, Lib.hid (by simp)⟩
  case round =>
    obtain ⟨u, acc, rfl, rfl, hu, hpr, H⟩ := hrel
    have e1 : (-(u : Int)).tmod 10 = -((u % 10 : Nat) : Int) := by rw [Int.neg_tmod, Int.tmod_eq_emod_of_nonneg (by omega)]; omega
    have e2 : (-(u : Int)).tdiv 10 = -((u / 10 : Nat) : Int) := by rw [Int.neg_tdiv, Int.tdiv_eq_ediv_of_nonneg (by omega)]; omega
    have hal : acc.length ≤ 19 := by
      have := congrArg List.length H.out
      rw [List.length_append] at this
      omega
    have hmod : u % 10 < 10 := by omega
    have hHS : Hid (if u < 10 then Lib.decDigits n = UInt8.ofNat (48 + u % 10) :: acc else Lib.decDigits n = Lib.decDigits (u / 10) ++ (UInt8.ofNat (48 + u % 10) :: acc)) := by
      refine Lib.hid ?_
      split
      · rename_i h; rw [H.out, dec_last h]; rfl
      · rename_i h; rw [H.out, dec_step h]; simp
    generalize hd : u % 10 = d at *
    generalize hq : u / 10 = q at *
    rcases (show d = 0 ∨ 0 < d by omega) with rfl | hd0
    · rcases (show q = 0 ∨ 0 < q by omega) with rfl | hq0
      · have HS := Lib.hid (show Lib.decDigits n = UInt8.ofNat (48 + 0) :: acc by have := hHS.out; rw [if_pos (by omega)] at this; exact this)
        clear hHS
        go_wp2
        go_ret
        exact ⟨by rw [HS.out]; rfl, hpr.alloc _⟩
      · have HS := Lib.hid (show Lib.decDigits n = Lib.decDigits q ++ (UInt8.ofNat (48 + 0) :: acc) by have := hHS.out; rw [if_neg (by omega)] at this; exact this)
        clear hHS
        go_wp2
        go_roundw
        case rel => exact ⟨q, _, rfl, rfl, by omega, hpr.alloc _, HS⟩
        case measure => simp [intOf]; try omega
    · have dn : decide (-(d : Int) < 0) = true := decide_eq_true (by omega)
      rcases (show q = 0 ∨ 0 < q by omega) with rfl | hq0
      · have HS := Lib.hid (show Lib.decDigits n = UInt8.ofNat (48 + d) :: acc by have := hHS.out; rw [if_pos (by omega)] at this; exact this)
        clear hHS
        go_wp2
        go_ret
        exact ⟨by rw [HS.out]; rfl, hpr.alloc _⟩
      · have HS := Lib.hid (show Lib.decDigits n = Lib.decDigits q ++ (UInt8.ofNat (48 + d) :: acc) by have := hHS.out; rw [if_neg (by omega)] at this; exact this)
        clear hHS
        go_wp2
        go_roundw
        case rel => exact ⟨q, _, rfl, rfl, by omega, hpr.alloc _, HS⟩
        case measure => simp [intOf]; try omega
/-- any number's digits -/
theorem rdigits_any (n : Int) (w : World) (h0 : -9223372036854775808 ≤ n) (h1 : n ≤ 9223372036854775807) :
    Calls Tryd.prog 36 #[.int .i64 n] w fun e w' => e = .returned (.string ⟨(Lib.itoa n).toArray⟩) ∧ Pur w w' := by
  by_cases h : n < 0
  · obtain ⟨u, hu⟩ := Int.eq_ofNat_of_zero_le (show 0 ≤ -n by omega)
    obtain rfl : n = -(u : Int) := by omega
    have e : Lib.itoa (-(u : Int)) = 45 :: Lib.decDigits u := by rw [Lib.itoa, if_pos h]; congr 2; omega
    rw [e]
    exact rdigits_neg u w (by omega) (by omega)
  · obtain ⟨u, rfl⟩ := Int.eq_ofNat_of_zero_le (show 0 ≤ n by omega)
    have e : Lib.itoa (u : Int) = Lib.decDigits u := by rw [Lib.itoa, if_neg h]; rfl
    rw [e]
    exact rdigits_pos u w (by omega)
end Go.Proofs.YtfophnmnehpenaaDoor
