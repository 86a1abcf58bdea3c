/- Where one byte stands first, in the words of takeWhile and dropWhile. No program in sight. -/
import Derived.Test.YtjbfkalkcopapaaDoorRtPure
import Derived.Lib.Bytealg
namespace Go.Proofs.YtjbfkalkcopapaaDoor
open Go Go.RowKit
set_option linter.all false
theorem ix_while (c : UInt8) : ∀ s : Bytes, (Lib.indexByte s c = -1 ∧ s.takeWhile (· != c) = s ∧ s.dropWhile (· != c) = []) ∨
    (∃ k : Nat, Lib.indexByte s c = k ∧ k < s.length ∧ s.takeWhile (· != c) = s.take k ∧ s.dropWhile (· != c) = s.drop k)
  | [] => .inl ⟨rfl, rfl, rfl⟩
  | b :: r => by
    by_cases h : b = c
    · subst h
      refine .inr ⟨0, ?_, by simp, by simp, by simp⟩
      rw [Lib.indexByte]
      simp
    · have hb : (b == c) = false := by simpa using h
      have hb2 : (b != c) = true := by simp [bne, hb]
      rcases ix_while c r with ⟨h1, h2, h3⟩ | ⟨k, h1, h2, h3, h4⟩
      · refine .inl ⟨?_, ?_, ?_⟩
        · rw [Lib.indexByte, hb, h1]; rfl
        · rw [List.takeWhile_cons, if_pos hb2, h2]
        · rw [List.dropWhile_cons, if_pos hb2, h3]
      · refine .inr ⟨k + 1, ?_, by simp; omega, ?_, ?_⟩
        · have hk : ((k : Int) == -1) = false := by rw [beq_eq_false_iff_ne]; omega
          rw [Lib.indexByte, hb, h1, hk]
          simp
        · rw [List.takeWhile_cons, if_pos hb2, h3, List.take_succ_cons]
        · rw [List.dropWhile_cons, if_pos hb2, h4, List.drop_succ_cons]
theorem ix47 (s : Bytes) : (Lib.indexByte s 47 = -1 ∧ hp s = s ∧ pathOf s = [47]) ∨ (∃ k : Nat, Lib.indexByte s 47 = k ∧ k < s.length ∧ hp s = sub s 0 k ∧ pathOf s = sub s k s.length) := by
  rcases ix_while 47 s with ⟨h1, h2, h3⟩ | ⟨k, h1, h2, h3, h4⟩
  · refine .inl ⟨h1, h2, ?_⟩
    unfold pathOf
    rw [h3, if_pos rfl]
  · refine .inr ⟨k, h1, h2, ?_, ?_⟩
    · unfold hp
      rw [h3, sub, List.drop_zero, Nat.sub_zero]
    · unfold pathOf
      rw [h4, if_neg (by intro e; have := congrArg List.length e; rw [List.length_drop] at this; simp at this; omega), sub, List.take_of_length_le (by rw [List.length_drop]; omega)]
end Go.Proofs.YtjbfkalkcopapaaDoor
