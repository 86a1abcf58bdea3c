/- Layer 5: bytes: a letter, a digit, a digit of sixteen. -/
import Derived.Test.YtepmneongpbglaaGreatDoorShelf
import Derived.Test.YtepmneongpbglaaGreatDoorLxP
import Derived.Laws.BitsAllLaws
namespace Go.Proofs.YtepmneongpbglaaGreatDoor
open Go Go.RowKit
set_option linter.all false
namespace Lx
set_option maxRecDepth 100000 in
theorem letter_any (b : Nat) (w : World) : Calls Tryz.prog 20 #[.int .u8 (b : Int)] w fun e w' => e = .returned (.bool (letter b)) ∧ w = w' := by
  have hq : letter b = ((decide (97 ≤ (b : Int)) && decide ((b : Int) ≤ 122)) || ((decide (65 ≤ (b : Int)) && decide ((b : Int) ≤ 90)) || ((b : Int) == 95 || (b : Int) == 36))) := by
    rw [Bool.eq_iff_iff]
    simp only [letter, Bool.and_eq_true, Bool.or_eq_true, decide_eq_true_eq, beq_iff_eq]
    omega
  rw [hq]
  generalize (b : Int) = c
  clear hq
  rcases d1 : decide (97 ≤ c) with _ | _ <;> rcases d2 : decide (c ≤ 122) with _ | _ <;> rcases d3 : decide (65 ≤ c) with _ | _ <;> rcases d4 : decide (c ≤ 90) with _ | _ <;> rcases d5 : (c == 95) with _ | _ <;> rcases d6 : (c == 36) with _ | _
  all_goals
    go_enter Tryz.func20, Tryz.ntmps20
    go_wp2
    go_ret
    exact ⟨rfl, rfl⟩
set_option maxRecDepth 100000 in
theorem digit_any (b : Nat) (w : World) : Calls Tryz.prog 21 #[.int .u8 (b : Int)] w fun e w' => e = .returned (.bool (digit b)) ∧ w = w' := by
  have hq : digit b = (decide (48 ≤ (b : Int)) && decide ((b : Int) ≤ 57)) := by
    rw [Bool.eq_iff_iff]
    simp only [digit, Bool.and_eq_true, decide_eq_true_eq]
    omega
  rw [hq]
  generalize (b : Int) = c
  clear hq
  rcases d1 : decide (48 ≤ c) with _ | _ <;> rcases d2 : decide (c ≤ 57) with _ | _
  all_goals
    go_enter Tryz.func21, Tryz.ntmps21
    go_wp2
    go_ret
    exact ⟨rfl, rfl⟩
theorem or32 : ∀ b : Nat, b < 256 → (decide (97 ≤ b ||| 32) && decide (b ||| 32 ≤ 102)) = (decide (97 ≤ b ∧ b ≤ 102) || decide (65 ≤ b ∧ b ≤ 70)) ∧ b ||| 32 < 256 ∧ ((b ||| 32 = 120) ↔ (b = 120 ∨ b = 88)) ∧ ((b ||| 32 = 101) ↔ (b = 101 ∨ b = 69)) := by decide +kernel
set_option maxRecDepth 100000 in
theorem sixteen_any (b : Nat) (w : World) (hb : b < 256) : Calls Tryz.prog 44 #[.int .u8 (b : Int)] w fun e w' => e = .returned (.bool (sixteen b)) ∧ w = w' := by
  have D := fun w => digit_any b w
  obtain ⟨h1, h2, -, -⟩ := or32 b hb
  have hq : sixteen b = (digit b || (decide (97 ≤ b ||| 32) && decide (b ||| 32 ≤ 102))) := by
    rw [h1, Bool.eq_iff_iff]
    simp only [sixteen, digit, Bool.or_eq_true, decide_eq_true_eq, or_assoc]
  rw [hq]
  clear hq h1
  have ho : bits .or .u8 (b : Int) 32 = ((b ||| 32 : Nat) : Int) := u8_or_nat b 32 hb (by decide)
  have e1 : decide ((97 : Int) ≤ ((b ||| 32 : Nat) : Int)) = decide (97 ≤ b ||| 32) := by rw [decide_eq_decide]; omega
  have e2 : decide (((b ||| 32 : Nat) : Int) ≤ 102) = decide (b ||| 32 ≤ 102) := by rw [decide_eq_decide]; omega
  generalize (b ||| 32 : Nat) = o at *
  rcases d1 : decide (97 ≤ o) with _ | _ <;> rcases d2 : decide (o ≤ 102) with _ | _ <;> rcases d0 : digit b with _ | _
  all_goals
    rw [d1] at e1
    rw [d2] at e2
    rw [d0] at D
    go_enter Tryz.func44, Tryz.ntmps44
    go_wp2_with fail
    refine (D _).mono ?_
    rintro e w1 ⟨rfl, rfl⟩
    go_wp2
    go_ret
    exact ⟨rfl, rfl⟩
end Lx
end Go.Proofs.YtepmneongpbglaaGreatDoor
