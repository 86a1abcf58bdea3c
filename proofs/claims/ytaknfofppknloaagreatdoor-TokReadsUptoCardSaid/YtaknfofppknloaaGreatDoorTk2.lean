/- Layer 2: which characters are what; a place; a fault; over one character, and over blanks. -/
import Derived.Test.YtaknfofppknloaaGreatDoorTk1
namespace Go.Proofs.YtaknfofppknloaaGreatDoor
open Go Go.RowKit
set_option linter.all false
namespace Tk
/-- what is told of a character, of the end too -/
def on (p : Nat → Bool) (x : Int) : Bool := decide (0 ≤ x) && p x.toNat
theorem on_pk (p : Nat → Bool) (xs : Cs) : on p (pk xs) = hd p xs := by
  cases xs <;> simp [on, pk, hd]
set_option maxRecDepth 100000 in
set_option maxHeartbeats 20000000 in
theorem allowed_any (c : Int) (w : World) (h : -1 ≤ c) : Calls Tryz.prog 50 #[.int .i64 c] w fun e w' => e = .returned (.bool (on allowed c)) ∧ w = w' := by
  rcases hb : (on allowed c) with _ | _
  all_goals
    simp only [on, allowed, Bool.and_eq_true, Bool.and_eq_false_iff, decide_eq_true_eq, decide_eq_false_iff_not] at hb
  · rcases (show c = -1 ∨ (c = 0) ∨ (1 ≤ c ∧ c < 9) ∨ (11 ≤ c ∧ c < 32) ∨ (55296 ≤ c ∧ c < 57344) ∨ (65534 ≤ c ∧ c < 65536) ∨ 1114112 ≤ c by omega) with h1 | h1 | h1 | h1 | h1 | h1 | h1
    all_goals
      have d1 : (c == 9) = false := by simp; omega
      have d2 : (c == 10) = false := by simp; omega
      obtain ⟨b3, d3⟩ : ∃ b, decide ((32 : Int) ≤ c) = b := ⟨_, rfl⟩
      obtain ⟨b4, d4⟩ : ∃ b, decide (c ≤ 55295) = b := ⟨_, rfl⟩
      obtain ⟨b5, d5⟩ : ∃ b, decide ((57344 : Int) ≤ c) = b := ⟨_, rfl⟩
      obtain ⟨b6, d6⟩ : ∃ b, decide (c ≤ 65533) = b := ⟨_, rfl⟩
      obtain ⟨b7, d7⟩ : ∃ b, decide ((65536 : Int) ≤ c) = b := ⟨_, rfl⟩
      obtain ⟨b8, d8⟩ : ∃ b, decide (c ≤ 1114111) = b := ⟨_, rfl⟩
      have e3 := d3; have e4 := d4; have e5 := d5; have e6 := d6; have e7 := d7; have e8 := d8
      rcases b3 with _ | _ <;> simp only [decide_eq_true_eq, decide_eq_false_iff_not] at e3 <;> try omega
      all_goals rcases b4 with _ | _ <;> simp only [decide_eq_true_eq, decide_eq_false_iff_not] at e4 <;> try omega
      all_goals rcases b5 with _ | _ <;> simp only [decide_eq_true_eq, decide_eq_false_iff_not] at e5 <;> try omega
      all_goals rcases b6 with _ | _ <;> simp only [decide_eq_true_eq, decide_eq_false_iff_not] at e6 <;> try omega
      all_goals rcases b7 with _ | _ <;> simp only [decide_eq_true_eq, decide_eq_false_iff_not] at e7 <;> try omega
      all_goals rcases b8 with _ | _ <;> simp only [decide_eq_true_eq, decide_eq_false_iff_not] at e8 <;> try omega
      all_goals
        clear e3 e4 e5 e6 e7 e8 h1 hb h
        go_enter Tryz.func50, Tryz.ntmps50
        go_wp2
        go_ret
        exact ⟨rfl, rfl⟩
  · rcases (show c = 9 ∨ c = 10 ∨ (32 ≤ c ∧ c ≤ 55295) ∨ (57344 ≤ c ∧ c ≤ 65533) ∨ (65536 ≤ c ∧ c ≤ 1114111) by omega) with rfl | rfl | h1 | h1 | h1
    · clear hb h
      go_enter Tryz.func50, Tryz.ntmps50
      go_wp2
      go_ret
      exact ⟨rfl, rfl⟩
    · clear hb h
      go_enter Tryz.func50, Tryz.ntmps50
      go_wp2
      go_ret
      exact ⟨rfl, rfl⟩
    all_goals
      have d1 : (c == 9) = false := by simp; omega
      have d2 : (c == 10) = false := by simp; omega
      obtain ⟨b3, d3⟩ : ∃ b, decide ((32 : Int) ≤ c) = b := ⟨_, rfl⟩
      obtain ⟨b4, d4⟩ : ∃ b, decide (c ≤ 55295) = b := ⟨_, rfl⟩
      obtain ⟨b5, d5⟩ : ∃ b, decide ((57344 : Int) ≤ c) = b := ⟨_, rfl⟩
      obtain ⟨b6, d6⟩ : ∃ b, decide (c ≤ 65533) = b := ⟨_, rfl⟩
      obtain ⟨b7, d7⟩ : ∃ b, decide ((65536 : Int) ≤ c) = b := ⟨_, rfl⟩
      obtain ⟨b8, d8⟩ : ∃ b, decide (c ≤ 1114111) = b := ⟨_, rfl⟩
      have e3 := d3; have e4 := d4; have e5 := d5; have e6 := d6; have e7 := d7; have e8 := d8
      rcases b3 with _ | _ <;> simp only [decide_eq_true_eq, decide_eq_false_iff_not] at e3 <;> try omega
      all_goals rcases b4 with _ | _ <;> simp only [decide_eq_true_eq, decide_eq_false_iff_not] at e4 <;> try omega
      all_goals rcases b5 with _ | _ <;> simp only [decide_eq_true_eq, decide_eq_false_iff_not] at e5 <;> try omega
      all_goals rcases b6 with _ | _ <;> simp only [decide_eq_true_eq, decide_eq_false_iff_not] at e6 <;> try omega
      all_goals rcases b7 with _ | _ <;> simp only [decide_eq_true_eq, decide_eq_false_iff_not] at e7 <;> try omega
      all_goals rcases b8 with _ | _ <;> simp only [decide_eq_true_eq, decide_eq_false_iff_not] at e8 <;> try omega
      all_goals
        clear e3 e4 e5 e6 e7 e8 h1 hb h
        go_enter Tryz.func50, Tryz.ntmps50
        go_wp2
        go_ret
        exact ⟨rfl, rfl⟩
set_option maxRecDepth 100000 in
theorem blank_any (c : Int) (w : World) (h : -1 ≤ c) : Calls Tryz.prog 51 #[.int .i64 c] w fun e w' => e = .returned (.bool (on blank c)) ∧ w = w' := by
  have hb : on blank c = (c == 9 || (c == 10 || c == 32)) := by
    rw [Bool.eq_iff_iff]
    simp only [on, blank, Bool.and_eq_true, Bool.or_eq_true, decide_eq_true_eq, beq_iff_eq]
    omega
  rw [hb]
  rcases d1 : (c == 9) with _ | _ <;> rcases d2 : (c == 10) with _ | _ <;> rcases d3 : (c == 32) with _ | _
  all_goals
    clear h hb
    go_enter Tryz.func51, Tryz.ntmps51
    go_wp2
    go_ret
    exact ⟨rfl, rfl⟩
set_option maxRecDepth 100000 in
set_option maxHeartbeats 20000000 in
theorem begins_any (c : Int) (w : World) (h : -1 ≤ c) : Calls Tryz.prog 69 #[.int .i64 c] w fun e w' => e = .returned (.bool (on begins c)) ∧ w = w' := by
  have hb : on begins c = ((decide (97 ≤ c) && decide (c ≤ 122)) || ((decide (65 ≤ c) && decide (c ≤ 90)) || (c == 95 || (c == 58 || decide (127 < c))))) := by
    rw [Bool.eq_iff_iff]
    simp only [on, begins, Bool.and_eq_true, Bool.or_eq_true, decide_eq_true_eq, beq_iff_eq]
    omega
  rw [hb]
  clear hb h
  rcases d1 : decide (97 ≤ c) with _ | _ <;> rcases d2 : decide (c ≤ 122) with _ | _ <;> rcases d3 : decide (65 ≤ c) with _ | _ <;> rcases d4 : decide (c ≤ 90) with _ | _ <;> rcases d5 : (c == 95) with _ | _ <;> rcases d6 : (c == 58) with _ | _ <;> rcases d7 : decide (127 < c) with _ | _
  all_goals
    go_enter Tryz.func69, Tryz.ntmps69
    go_wp2
    go_ret
    exact ⟨rfl, rfl⟩
set_option maxRecDepth 100000 in
set_option maxHeartbeats 20000000 in
theorem goesOn_any (c : Int) (w : World) (h : -1 ≤ c) : Calls Tryz.prog 72 #[.int .i64 c] w fun e w' => e = .returned (.bool (on goesOn c)) ∧ w = w' := by
  have B := fun w => begins_any c w h
  have hb : on goesOn c = (on begins c || ((decide (48 ≤ c) && decide (c ≤ 57)) || (c == 45 || c == 46))) := by
    rw [Bool.eq_iff_iff]
    simp only [on, goesOn, begins, Bool.and_eq_true, Bool.or_eq_true, decide_eq_true_eq, beq_iff_eq]
    omega
  rw [hb]
  clear hb h
  rcases d0 : on begins c with _ | _ <;> rcases d1 : decide (48 ≤ c) with _ | _ <;> rcases d2 : decide (c ≤ 57) with _ | _ <;> rcases d3 : (c == 45) with _ | _ <;> rcases d4 : (c == 46) with _ | _
  all_goals
    rw [d0] at B
    go_enter Tryz.func72, Tryz.ntmps72
    go_wp2_with fail
    refine (B _).mono ?_
    rintro e w1 ⟨rfl, rfl⟩
    go_wp2
    go_ret
    exact ⟨rfl, rfl⟩
end Tk
end Go.Proofs.YtaknfofppknloaaGreatDoor
