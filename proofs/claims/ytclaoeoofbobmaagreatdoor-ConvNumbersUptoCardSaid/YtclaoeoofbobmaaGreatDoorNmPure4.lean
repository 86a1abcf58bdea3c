/- The wide text of plain bytes is those bytes. -/
import Derived.Test.YtclaoeoofbobmaaGreatDoorNmP
import Derived.Test.YtclaoeoofbobmaaGreatDoorLxP
namespace Go.Proofs.YtclaoeoofbobmaaGreatDoor
open Go Go.RowKit
set_option linter.all false
namespace Nm
open Lx (w16)
theorem w16_len : ∀ t : List UInt8, (w16 t).length = 2 * t.length
  | [] => rfl
  | b :: r => by
    have h := w16_len r
    unfold w16 at h ⊢
    rw [List.flatMap_cons, List.length_append, h]; simp; omega
theorem w16_by : ∀ (t : List UInt8) (i : Nat), by8 (w16 t) (2 * i) = 0 ∧ by8 (w16 t) (2 * i + 1) = by8 t i
  | [], i => by
    have h : ∀ k, by8 ([] : List UInt8) k = 0 := fun k => by8_out _ (by simp)
    exact ⟨h _, by rw [show w16 [] = [] from rfl, h, h]⟩
  | b :: r, 0 => ⟨rfl, rfl⟩
  | b :: r, i + 1 => by
    have h := w16_by r i
    have e : w16 (b :: r) = 0 :: b :: w16 r := rfl
    rw [e, show 2 * (i + 1) = 2 * i + 1 + 1 by omega, by8_cons, by8_cons, show 2 * i + 1 + 1 + 1 = (2 * i + 1) + 1 + 1 by omega, by8_cons, by8_cons, by8_cons]
    exact h
theorem at_w16 (t : List UInt8) (i : Nat) : at16 (w16 t) i = by8 t i := by
  have h := w16_by t i
  unfold at16
  first
    | (rw [show 2 * i = 2 * i from rfl, h.1, h.2]; omega)
    | (rw [Nat.mul_comm] at h; rw [h.1, h.2]; omega)
/-- what stands in numbers: below 128, no blank -/
def Pl (t : List UInt8) : Prop := ∀ k, k < t.length → by8 t k < 128 ∧ blank (by8 t k) = false
theorem bytes_w16 {t : List UInt8} (h : Pl t) : ∀ f i, f + i = t.length → bytesGo (w16 t) t.length f i = some (t.drop i)
  | 0, i, e => by rw [bytesGo, List.drop_of_length_le (by omega)]
  | f + 1, i, e => by
    have hk := h i (by omega)
    rw [bytesGo, if_pos (by omega), at_w16, if_neg (by omega), bytes_w16 h f (i + 1) (by omega)]
    rw [List.drop_eq_getElem_cons (by omega : i < t.length)]
    simp [by8, List.getD_eq_getElem?_getD, List.getElem?_eq_getElem (by omega : i < t.length)]
theorem plain_w16 {t : List UInt8} (h : Pl t) (h0 : 0 < t.length) : plain (w16 t) = some t := by
  have hl : (w16 t).length / 2 = t.length := by rw [w16_len]; omega
  have hf : fromI (w16 t) = 0 := by
    unfold fromI
    rw [hl]
    obtain ⟨n, hn⟩ : ∃ n, t.length = n + 1 := ⟨t.length - 1, by omega⟩
    rw [hn, fromGo, if_pos (by omega), at_w16, (h 0 h0).2]
    rfl
  have ht : toI (w16 t) = t.length := by
    unfold toI
    rw [hl, hf]
    obtain ⟨n, hn⟩ : ∃ n, t.length = n + 1 := ⟨t.length - 1, by omega⟩
    rw [hn, toGo, if_pos (by omega), at_w16, (h n (by omega)).2]
    rfl
  unfold plain
  rw [hf, ht, Nat.sub_zero, bytes_w16 h t.length 0 (by omega), List.drop_zero]
theorem blank_no : ∀ c, c < 128 → 33 ≤ c → blank c = false := by decide +kernel
theorem dec_pl {t : List UInt8} (h : decimal t = true) : Pl t := by
  obtain ⟨M, -, -, -, -, -, h6, -, -⟩ := dec_shape h
  intro k hk
  have hb : 33 ≤ by8 t k ∧ by8 t k < 128 := by
    rcases h6 k hk with g | g | g | g | g | g
    · have := dig_byte g; omega
    all_goals omega
  exact ⟨hb.2, blank_no _ hb.2 hb.1⟩
theorem hex_pl {t : List UInt8} (h : isHex t = true) : Pl t := by
  unfold isHex at h
  rw [decide_eq_true_eq] at h
  obtain ⟨h1, h2, h3, h4⟩ := h
  intro k hk
  have hb : 33 ≤ by8 t k ∧ by8 t k < 128 := by
    rcases (show k = 0 ∨ k = 1 ∨ 2 ≤ k by omega) with e | e | e
    · rw [e]; omega
    · rw [e]; omega
    · obtain ⟨b, b1, b2⟩ := runGo_at hexes (t.drop 2) (k - 2) (by omega)
      rw [by8_drop, show 2 + (k - 2) = k by omega] at b1
      rw [← b1]
      rcases hex_in b b2 with g | ⟨-, g, -⟩
      · have := dig_byte g; omega
      · have hall : ∀ c, c < 256 → Rf.hexC c = true → 33 ≤ c ∧ c < 128 := by decide +kernel
        exact hall _ (UInt8.toNat_lt b) g
  exact ⟨hb.2, blank_no _ hb.2 hb.1⟩
end Nm
end Go.Proofs.YtclaoeoofbobmaaGreatDoor
