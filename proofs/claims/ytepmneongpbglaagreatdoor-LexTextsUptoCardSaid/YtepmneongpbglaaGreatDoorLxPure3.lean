/- Layer 5, in plain words: where a word stands in the list of words. -/
import Derived.Test.YtepmneongpbglaaGreatDoorLxPure
import Derived.Lib.Bytealg
import Derived.Lib.Index
namespace Go.Proofs.YtepmneongpbglaaGreatDoor
open Go Go.RowKit
set_option linter.all false
namespace Lx
theorem idx_some_of {t : List UInt8} : ∀ (b : List UInt8) (k : Nat), t <+: b.drop k → t ≠ [] → (idx t b).isSome = true
  | [], k, h, ht => by
    rw [List.drop_nil] at h
    exact absurd (List.prefix_nil.1 h) ht
  | b :: r, k, h, ht => by
    rw [idx]
    by_cases h0 : t.isPrefixOf (b :: r) = true
    · rw [if_pos h0]; rfl
    · rw [if_neg h0]
      cases k with
      | zero => exact absurd (List.isPrefixOf_iff_prefix.2 h) h0
      | succ k =>
        have := idx_some_of r k (by simpa using h) ht
        cases hi : idx t r with
        | none => rw [hi] at this; cases this
        | some x => rfl
theorem idx_none_of {t : List UInt8} (ht : t ≠ []) : ∀ (b : List UInt8), (∀ k, k < b.length → ¬ t <+: b.drop k) → idx t b = none
  | [], _ => by rw [idx, if_neg ht]
  | b :: r, h => by
    have h0 := h 0 (by simp)
    rw [idx, if_neg (fun e => h0 (by simpa using List.isPrefixOf_iff_prefix.1 e)), idx_none_of ht r (fun k hk => by have := h (k + 1) (by simp; omega); simpa using this)]
    rfl
theorem idx_lt {t : List UInt8} : ∀ (b : List UInt8) (k : Nat), idx t b = some k → t <+: b.drop k ∧ k + t.length ≤ b.length ∧ ∀ j, j < k → ¬ t <+: b.drop j
  | [], k, h => by
    rw [idx] at h
    split at h
    · rename_i ht; cases h; subst ht; exact ⟨by simp, by simp, fun j hj => absurd hj (by omega)⟩
    · cases h
  | b :: r, k, h => by
    rw [idx] at h
    split at h
    · rename_i h0
      cases h
      have := List.isPrefixOf_iff_prefix.1 h0
      exact ⟨by simpa using this, by have := this.length_le; omega, fun j hj => absurd hj (by omega)⟩
    · rename_i h0
      cases hi : idx t r with
      | none => rw [hi] at h; cases h
      | some x =>
        rw [hi] at h
        cases h
        obtain ⟨k1, k2, k3⟩ := idx_lt r x hi
        refine ⟨by simpa using k1, by simp only [List.length_cons]; omega, fun j hj => ?_⟩
        have hj : j < x + 1 := hj
        cases j with
        | zero => intro e; exact h0 (List.isPrefixOf_iff_prefix.2 (by simpa using e))
        | succ j => simpa using k3 j (by omega)
/-- a word, blanks at its sides, stands at a place -/
theorem stands {s l : List UInt8} {i : Nat} (hi : i + s.length + 2 ≤ l.length) : (32 :: (s ++ [32])) <+: l.drop i ↔ (by8 l i = 32 ∧ sub l (i + 1) (i + 1 + s.length) = s ∧ by8 l (i + 1 + s.length) = 32) := by
  have e1 : l.drop i = UInt8.ofNat (by8 l i) :: l.drop (i + 1) := by
    rw [List.drop_eq_getElem_cons (by omega : i < l.length)]
    congr 1
    simp [by8, List.getD_eq_getElem?_getD, List.getElem?_eq_getElem (by omega : i < l.length)]
  have e2 : l.drop (i + 1) = sub l (i + 1) (i + 1 + s.length) ++ l.drop (i + 1 + s.length) := by
    unfold sub
    rw [show i + 1 + s.length - (i + 1) = s.length by omega, show l.drop (i + 1 + s.length) = (l.drop (i + 1)).drop s.length by rw [List.drop_drop], List.take_append_drop]
  have e3 : l.drop (i + 1 + s.length) = UInt8.ofNat (by8 l (i + 1 + s.length)) :: l.drop (i + 1 + s.length + 1) := by
    rw [List.drop_eq_getElem_cons (by omega : i + 1 + s.length < l.length)]
    congr 1
    simp [by8, List.getD_eq_getElem?_getD, List.getElem?_eq_getElem (by omega : i + 1 + s.length < l.length)]
  have hb : ∀ k, UInt8.ofNat (by8 l k) = 32 ↔ by8 l k = 32 := fun k => by
    have := by8_lt l k
    constructor
    · intro h
      have := congrArg UInt8.toNat h
      rw [UInt8.toNat_ofNat'] at this
      have e : (32 : UInt8).toNat = 32 := rfl
      omega
    · intro h; rw [h]; rfl
  have hsl : (sub l (i + 1) (i + 1 + s.length)).length = s.length := by rw [length_sub]; omega
  rw [e1, List.cons_prefix_cons, e2, e3]
  constructor
  · rintro ⟨h1, h2⟩
    have h3 : s = sub l (i + 1) (i + 1 + s.length) := by
      have := List.prefix_append s [32]
      have h4 := this.trans h2
      have h5 := List.prefix_iff_eq_take.1 h4
      rw [List.take_append_of_le_length (by omega), List.take_of_length_le (by omega)] at h5
      exact h5
    rw [← h3, List.prefix_append_right_inj, List.cons_prefix_cons] at h2
    exact ⟨(hb i).1 h1.symm, h3.symm, (hb _).1 h2.1.symm⟩
  · rintro ⟨h1, h2, h3⟩
    refine ⟨((hb i).2 h1).symm, ?_⟩
    rw [h2, List.prefix_append_right_inj, List.cons_prefix_cons]
    exact ⟨((hb _).2 h3).symm, List.nil_prefix⟩
def idxI : Option Nat → Int
  | none => -1
  | some k => (k : Int)
theorem contains_idx (t : List UInt8) : ∀ l : List UInt8, Lib.index l t = idxI (idx t l)
  | [] => by
    rw [Lib.index, idx]
    cases t <;> rfl
  | b :: r => by
    rw [Lib.index, idx, contains_idx t r]
    by_cases h : t.isPrefixOf (b :: r) = true
    · rw [if_pos h, if_pos h]; rfl
    · rw [if_neg h, if_neg h]
      cases hi : idx t r with
      | none => rfl
      | some k =>
        have : ((k : Int) == -1) = false := by rw [beq_eq_false_iff_ne]; omega
        simp [this, idxI]
end Lx
end Go.Proofs.YtepmneongpbglaaGreatDoor
