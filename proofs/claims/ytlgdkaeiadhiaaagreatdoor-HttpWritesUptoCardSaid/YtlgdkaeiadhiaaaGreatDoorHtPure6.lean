/- Places of a text, one by one; blanks at the ends are no fault. No program in sight. -/
import Derived.Test.YtlgdkaeiadhiaaaGreatDoorHtPure5
namespace Go.Proofs.YtlgdkaeiadhiaaaGreatDoor
open Go Go.RowKit
set_option linter.all false
theorem idx_at {t : Bytes} : ∀ (b : Bytes) (k : Nat), idx t b = some k → t <+: b.drop k ∧ ∀ j, j < k → ¬ t <+: b.drop j
  | [], k, h => by
    rw [idx] at h
    split at h
    · rename_i e
      obtain rfl := Option.some.inj h
      exact ⟨by rw [e]; exact List.nil_prefix, fun j hj => by omega⟩
    · cases h
  | c :: r, k, h => by
    rw [idx] at h
    split at h
    · rename_i hp
      obtain rfl := Option.some.inj h
      exact ⟨hp, fun j hj => by omega⟩
    · rename_i hn
      cases hi : idx t r with
      | none => rw [hi] at h; cases h
      | some j =>
        rw [hi] at h
        obtain rfl : j + 1 = k := by simpa using h
        obtain ⟨h1, h2⟩ := idx_at r j hi
        refine ⟨h1, fun i hlt => ?_⟩
        cases i with
        | zero => exact hn
        | succ i => exact h2 i (by omega)
theorem idx_never {t : Bytes} : ∀ (b : Bytes), idx t b = none → ∀ j, j < b.length → ¬ t <+: b.drop j
  | [], _, j, hj => by simp at hj
  | c :: r, h, j, hj => by
    rw [idx] at h
    split at h
    · cases h
    · rename_i hn
      have hr : idx t r = none := by simpa using h
      cases j with
      | zero => exact hn
      | succ j => exact idx_never r hr j (by simpa using hj)
theorem dw_text (s : Bytes) : okText (s.dropWhile blankB) = okText s := by
  induction s with
  | nil => rfl
  | cons c r ih =>
    by_cases h : blankB c = true
    · rw [List.dropWhile_cons, if_pos h, ih]
      have : textB c.toNat = true := by
        simp only [blankB, Bool.or_eq_true, beq_iff_eq] at h
        rcases h with rfl | rfl <;> decide
      unfold okText
      rw [List.all_cons, this, Bool.true_and]
    · rw [List.dropWhile_cons, if_neg h]
theorem rev_text (s : Bytes) : okText s.reverse = okText s := by unfold okText; rw [List.all_reverse]
theorem text_trim (s : Bytes) : okText (trim s) = okText s := by
  unfold trim
  rw [rev_text, dw_text, rev_text, dw_text]
theorem colon_way (l : Bytes) : ((58 : UInt8) ∉ l ∧ l.takeWhile (· != 58) = l) ∨ (∃ c, c < l.length ∧ (58 : UInt8) ∈ l ∧ by8 l c = 58 ∧ (∀ j, j < c → by8 l j ≠ 58) ∧ l.takeWhile (· != 58) = sub l 0 c ∧ (l.dropWhile (· != 58)).drop 1 = l.drop (c + 1)) := by
  induction l with
  | nil => exact .inl ⟨by simp, rfl⟩
  | cons b r ih =>
    by_cases hb : b = 58
    · subst hb
      exact .inr ⟨0, by simp, by simp, rfl, fun j h => by omega, by simp [sub], by simp⟩
    · have hb2 : (b != 58) = true := by simpa using hb
      have hb3 : b.toNat ≠ 58 := fun e => hb (UInt8.toNat_inj.1 e)
      rcases ih with ⟨h1, h2⟩ | ⟨c, h1, h2, h3, h4, h5, h6⟩
      · refine .inl ⟨by simp only [List.mem_cons, not_or]; exact ⟨fun e => hb e.symm, h1⟩, by rw [List.takeWhile_cons, if_pos hb2, h2]⟩
      · refine .inr ⟨c + 1, by simp; omega, by simp [h2], by simpa [by8] using h3, fun j hj => ?_, ?_, ?_⟩
        · cases j with
          | zero => exact hb3
          | succ j => have := h4 j (by omega); simpa [by8] using this
        · rw [List.takeWhile_cons, if_pos hb2, h5]
          simp [sub]
        · rw [List.dropWhile_cons, if_pos hb2, h6, List.drop_succ_cons]
end Go.Proofs.YtlgdkaeiadhiaaaGreatDoor
