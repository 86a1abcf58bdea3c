/- The document's Status; the tests that are handed to read. -/
import Derived.Test.YtlgdkaeiadhiaaaGreatDoorHt7
namespace Go.Proofs.YtlgdkaeiadhiaaaGreatDoor
open Go Go.RowKit
set_option linter.all false
theorem stn_short {s : Bytes} (h : s.length < 12) : stn s = -1 := by
  have hn : statusOf s = none := by unfold statusOf; rw [if_neg (by rintro ⟨_, a, _⟩; omega)]
  unfold stn
  rw [hn]
theorem sub_912 (s : Bytes) : sub s 9 12 = (s.drop 9).take 3 := rfl
theorem stn_tests {s : Bytes} (h12 : 12 ≤ s.length) : stn s =
    if (!decide (sub s 0 9 = headR) || decide (by8 s 9 < 49) || decide (53 < by8 s 9) || !digitsB (sub s 9 12) || (decide (12 < s.length) && (!decide (by8 s 12 = 32) || !okText (s.drop 12)))) = true then -1 else ((dval 0 (sub s 9 12) : Nat) : Int) := by
  have hpre : vHttp ++ [32] <+: s ↔ sub s 0 9 = headR := by
    unfold sub
    rw [List.drop_zero]
    constructor
    · rintro ⟨q, rfl⟩; rfl
    · intro e
      have : headR <+: s := by rw [← e]; exact List.take_prefix _ _
      exact this
  rw [sub_912]
  unfold stn statusOf
  by_cases g1 : sub s 0 9 = headR
  · by_cases g2 : by8 s 9 < 49
    · rw [if_neg (by rintro ⟨_, _, a, _⟩; omega)]; simp [g2]
    · by_cases g3 : 53 < by8 s 9
      · rw [if_neg (by rintro ⟨_, _, _, a, _⟩; omega)]; simp [g3]
      · by_cases g4 : digitsB ((s.drop 9).take 3) = true
        · by_cases g5 : 12 < s.length
          · by_cases g6 : by8 s 12 = 32
            · by_cases g7 : okText (s.drop 12) = true
              · rw [if_pos ⟨hpre.2 g1, h12, by omega, by omega, g4, .inr ⟨g6, g7⟩⟩]; simp [g1, g2, g3, g4, g6, g7]
              · rw [if_neg (by rintro ⟨_, _, _, _, _, a | a⟩; omega; exact g7 a.2)]; simp [g5, g7]
            · rw [if_neg (by rintro ⟨_, _, _, _, _, a | a⟩; omega; exact g6 a.1)]; simp [g5, g6]
          · rw [if_pos ⟨hpre.2 g1, h12, by omega, by omega, g4, .inl (by omega)⟩]; simp [g1, g2, g3, g4, g5]
        · rw [if_neg (fun a => g4 a.2.2.2.2.1)]; simp [g4]
  · rw [if_neg (fun a => g1 (hpre.1 a.1))]; simp [g1]
set_option maxRecDepth 100000 in
set_option maxHeartbeats 16000000 in
theorem rstatus_any (s : Bytes) (w : World) (hs : s.length ≤ 100000000) :
    Calls Tryz.prog 28 #[.string ⟨s.toArray⟩] w fun e w' => e = .returned (.int .i64 (stn s)) ∧ w = w' := by
  by_cases h12 : 12 ≤ s.length
  · rw [stn_tests h12]
    have D12 : decide ((s.length : Int) < 12) = false := decide_eq_false (by omega)
    have z9 : (9 : Int) ≤ s.length := by omega
    have z9' : (9 : Int) < s.length := by omega
    have z12 : (12 : Int) ≤ s.length := by omega
    have DG := fun w => rdigits9_any (sub s 9 12) w (by rw [length_sub]; omega)
    have TX := fun w => rtext_any (s.drop 12) w (by rw [List.length_drop]; omega)
    have es := (by unfold sub; rw [List.take_of_length_le (by rw [List.length_drop]; omega)] : sub s 12 s.length = s.drop 12)
    have hd9 : dig9 (sub s 9 12) = if digitsB (sub s 9 12) = true then ((dval 0 (sub s 9 12) : Nat) : Int) else -1 := by
      unfold dig9
      have hl3 : (sub s 9 12).length = 3 := by rw [length_sub]; omega
      by_cases h : digitsB (sub s 9 12) = true
      · rw [if_pos ⟨h, by omega, by omega⟩, if_pos h]
      · rw [if_neg (fun a => h a.1), if_neg h]
    rw [hd9] at DG
    obtain ⟨b1, t1⟩ : ∃ b, decide (sub s 0 9 = headR) = b := ⟨_, rfl⟩
    obtain ⟨b2, t2⟩ : ∃ b, decide (by8 s 9 < 49) = b := ⟨_, rfl⟩
    obtain ⟨b3, t3⟩ : ∃ b, decide (53 < by8 s 9) = b := ⟨_, rfl⟩
    obtain ⟨b4, t4⟩ : ∃ b, digitsB (sub s 9 12) = b := ⟨_, rfl⟩
    obtain ⟨b5, t5⟩ : ∃ b, decide (12 < s.length) = b := ⟨_, rfl⟩
    obtain ⟨b6, t6⟩ : ∃ b, decide (by8 s 12 = 32) = b := ⟨_, rfl⟩
    obtain ⟨b7, t7⟩ : ∃ b, okText (s.drop 12) = b := ⟨_, rfl⟩
    have s1' : (sub s 0 9 == [72, 84, 84, 80, 47, 49, 46, 49, 32]) = b1 := by
      rw [← t1]
      by_cases e : sub s 0 9 = headR
      · rw [decide_eq_true e, e]; rfl
      · rw [decide_eq_false e]; exact beq_eq_false_iff_ne.2 e
    have s1 : (sub s 0 9 != [72, 84, 84, 80, 47, 49, 46, 49, 32]) = !b1 := by rw [← s1']; rfl
    have s2 : decide ((by8 s 9 : Int) < 49) = b2 := by rw [← t2]; exact decide_eq_decide.2 (by omega)
    have s3 : decide ((53 : Int) < by8 s 9) = b3 := by rw [← t3]; exact decide_eq_decide.2 (by omega)
    have s5 : decide ((12 : Int) < s.length) = b5 := by rw [← t5]; exact decide_eq_decide.2 (by omega)
    have s6 : ((by8 s 12 : Int) != 32) = !b6 := by
      rw [← t6, Bool.eq_iff_iff]
      simp
      omega
    have Z : b5 = true → (12 : Int) < s.length := fun h => by rw [h] at t5; have := of_decide_eq_true t5; omega
    rw [t4] at DG
    rw [t7] at TX
    rw [t1, t2, t3, t4, t5, t6, t7]
    clear t1 t2 t3 t4 t5 t6 t7 h12 hd9
    have hv0 : (0 : Int) ≤ ((dval 0 (sub s 9 12) : Nat) : Int) := by omega
    have hv1 : decide (((dval 0 (sub s 9 12) : Nat) : Int) < 0) = false := decide_eq_false (by omega)
    generalize dval 0 (sub s 9 12) = dv at *
    rcases b1 with _ | _ <;> rcases b2 with _ | _ <;> rcases b3 with _ | _ <;> rcases b4 with _ | _ <;> rcases b5 with _ | _ <;> rcases b6 with _ | _ <;> rcases b7 with _ | _
    all_goals
      simp only [Bool.false_eq_true, if_true, if_false] at DG
      try have Z2 := Z rfl
      clear Z
      go_enter Tryz.func28, Tryz.ntmps28
      go_wp2_with (first
        | (go_at_call 47; refine (DG _).mono ?_; rintro e w' ⟨rfl, rfl⟩)
        | (go_at_call 44; refine (TX _).mono ?_; rintro e w' ⟨rfl, rfl⟩))
      go_ret
      exact ⟨rfl, rfl⟩
  · rw [stn_short (by omega)]
    have D12 : decide ((s.length : Int) < 12) = true := decide_eq_true (by omega)
    go_enter Tryz.func28, Tryz.ntmps28
    go_wp2
    go_ret
    exact ⟨rfl, rfl⟩
end Go.Proofs.YtlgdkaeiadhiaaaGreatDoor
