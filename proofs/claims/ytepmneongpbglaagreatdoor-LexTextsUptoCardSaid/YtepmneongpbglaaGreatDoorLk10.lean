/- Layer 5, in plain words: a number's bytes are plain ones; plain bytes as a wide text. -/
import Derived.Test.YtepmneongpbglaaGreatDoorLxPure5
import Derived.Test.YtepmneongpbglaaGreatDoorUtfPure4
namespace Go.Proofs.YtepmneongpbglaaGreatDoor
open Go Go.RowKit
set_option linter.all false
namespace Lx
/-- plain bytes as units -/
def w16 (t : List UInt8) : List UInt8 := t.flatMap fun b => [0, b]
theorem wide_plain (t : List UInt8) (h : ∀ b ∈ t, b.toNat < 128) : wideR t = (w16 t, 0, 0) := by
  have e1 : (t.map UInt8.toNat).flatMap enc = t := by
    induction t with
    | nil => rfl
    | cons b r ih =>
      have hb := h b (by simp)
      rw [List.map_cons, List.flatMap_cons, ih (fun c hc => h c (by simp [hc]))]
      unfold enc
      rw [if_pos hb]
      simp
  have e2 : (t.map UInt8.toNat).flatMap _root_.Go.Proofs.YtepmneongpbglaaGreatDoor.units = w16 t := by
    clear e1
    induction t with
    | nil => rfl
    | cons b r ih =>
      have hb := h b (by simp)
      rw [List.map_cons, List.flatMap_cons, ih (fun c hc => h c (by simp [hc]))]
      unfold _root_.Go.Proofs.YtepmneongpbglaaGreatDoor.units w16 unit8
      rw [if_neg (by omega), List.flatMap_cons, show b.toNat / 256 = 0 by omega, show b.toNat % 256 = b.toNat by omega]
      simp
  have := wideR_flat (t.map UInt8.toNat) (fun c hc => by
    obtain ⟨b, hb, rfl⟩ := List.mem_map.1 hc
    have := h b hb
    unfold okc; omega)
  rw [e1, e2] at this
  exact this
theorem run_all (q : Nat → Bool) (l : List UInt8) (i k : Nat) (h1 : i ≤ k) (h2 : k < run q l i) : q (by8 l k) = true := by
  have key : ∀ (xs : List UInt8) (m : Nat), m < runGo q xs → q (by8 xs m) = true := fun xs => by
    induction xs with
    | nil => intro m hm; simp [runGo] at hm
    | cons b r ih =>
      intro m hm
      rw [runGo] at hm
      split at hm
      · rename_i hb
        cases m with
        | zero => simpa [by8] using hb
        | succ m => have := ih m (by omega); simpa [by8] using this
      · omega
  have := key (l.drop i) (k - i) (by unfold run at h2; omega)
  have e : by8 (l.drop i) (k - i) = by8 l k := by
    unfold by8
    simp only [List.getD_eq_getElem?_getD, List.getElem?_drop]
    rw [show i + (k - i) = k by omega]
  rwa [e] at this
theorem digit_low {b : Nat} (h : digit b = true) : b < 128 := by simp [digit] at h; omega
theorem sixteen_low {b : Nat} (h : sixteen b = true) : b < 128 := by simp [sixteen] at h; omega
theorem ptd_low {l : List UInt8} {i a : Nat} (h : ∀ k, i ≤ k → k < a → by8 l k < 128) : ∀ k, i ≤ k → k < ptd l a → by8 l k < 128 := by
  intro k h1 h2
  unfold ptd at h2
  split at h2
  · rename_i g
    rcases Nat.lt_trichotomy k a with hk | hk | hk
    · exact h k h1 hk
    · subst hk; omega
    · exact digit_low (run_all digit l (a + 1) k (by omega) h2)
  · exact h k h1 h2
theorem sgn_low {l : List UInt8} {i a : Nat} (h : ∀ k, i ≤ k → k < a → by8 l k < 128) : ∀ k, i ≤ k → k < sgn l a → by8 l k < 128 := by
  intro k h1 h2
  unfold sgn at h2
  split at h2
  · rename_i g
    rcases Nat.lt_or_ge k a with hk | hk
    · exact h k h1 hk
    · obtain rfl : k = a := by omega
      omega
  · exact h k h1 h2
theorem num_low {l : List UInt8} {i e : Nat} (h : numEnd l i = some e) : ∀ k, i ≤ k → k < e → by8 l k < 128 := by
  unfold numEnd at h
  have h0 : ∀ k, i ≤ k → k < run digit l i → by8 l k < 128 := fun k h1 h2 => digit_low (run_all digit l i k h1 h2)
  have hp := ptd_low h0
  split at h
  · rename_i q
    split at h
    · cases h
    · cases h
      intro k h1 h2
      rcases Nat.lt_or_ge k (i + 2) with hk | hk
      · rcases (show k = i ∨ k = i + 1 by omega) with rfl | rfl
        · omega
        · omega
      · exact sixteen_low (run_all sixteen l (i + 2) k hk h2)
  split at h
  · cases h
  split at h
  · rename_i q
    split at h
    · cases h
    · cases h
      intro k h1 h2
      have hs : ∀ k, i ≤ k → k < sgn l (ptd l (run digit l i) + 1) → by8 l k < 128 := sgn_low (fun k h1 h2 => by
        rcases Nat.lt_or_ge k (ptd l (run digit l i)) with hk | hk
        · exact hp k h1 hk
        · obtain rfl : k = ptd l (run digit l i) := by omega
          omega)
      rcases Nat.lt_or_ge k (sgn l (ptd l (run digit l i) + 1)) with hk | hk
      · exact hs k h1 hk
      · exact digit_low (run_all digit l _ k hk h2)
  · cases h
    exact hp
theorem sub_low {l : List UInt8} {i e : Nat} (h : ∀ k, i ≤ k → k < e → by8 l k < 128) : ∀ b ∈ sub l i e, b.toNat < 128 := by
  intro b hb
  obtain ⟨k, hk, rfl⟩ := List.mem_iff_getElem.1 hb
  have hl := hk
  rw [length_sub] at hl
  have := h (i + k) (by omega) (by omega)
  have e2 : by8 (sub l i e) k = (sub l i e)[k].toNat := by simp [by8, List.getD_eq_getElem?_getD, List.getElem?_eq_getElem hk]
  rw [by8_sub, if_pos (by omega)] at e2
  omega
end Lx
end Go.Proofs.YtepmneongpbglaaGreatDoor
