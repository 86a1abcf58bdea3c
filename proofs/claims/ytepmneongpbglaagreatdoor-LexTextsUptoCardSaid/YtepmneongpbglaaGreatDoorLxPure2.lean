/- Layer 5: any wide text, each unit as an escape of four digits, is told as it is. -/
import Derived.Test.YtepmneongpbglaaGreatDoorLxPure
namespace Go.Proofs.YtepmneongpbglaaGreatDoor
open Go Go.RowKit
set_option linter.all false
namespace Lx
/-- a digit of sixteen, as the law writes it -/
def dgs : List UInt8 := [48, 49, 50, 51, 52, 53, 54, 55, 56, 57, 97, 66, 99, 68, 101, 70]
def dg (n : Nat) : UInt8 := dgs.getD n 0
theorem dg_ok : ∀ n, n < 16 → sixteen (dg n).toNat = true ∧ hexv (dg n).toNat = n := by decide
def hexes : List UInt8 → List UInt8
  | a :: b :: r => 92 :: 117 :: dg (a.toNat / 16) :: dg (a.toNat % 16) :: dg (b.toNat / 16) :: dg (b.toNat % 16) :: hexes r
  | _ => []
theorem drop_at {l : List UInt8} {i : Nat} {b : UInt8} {r : List UInt8} (h : l.drop i = b :: r) : i < l.length ∧ by8 l i = b.toNat ∧ l.drop (i + 1) = r := by
  have hi : i < l.length := by
    rcases Nat.lt_or_ge i l.length with g | g
    · exact g
    · rw [List.drop_of_length_le g] at h; cases h
  refine ⟨hi, ?_, ?_⟩
  · rw [List.drop_eq_getElem_cons hi] at h
    obtain ⟨h1, -⟩ := List.cons.inj h
    simp [by8, List.getD_eq_getElem?_getD, List.getElem?_eq_getElem hi, h1]
  · rw [← List.drop_drop, h]; rfl
theorem chr_low {l : List UInt8} {i : Nat} (hi : i < l.length) (h : by8 l i < 128) : chr l i = (by8 l i, 1) := by
  unfold chr
  rw [if_neg (by omega), if_pos h]
theorem hexes_len : ∀ w : List UInt8, (hexes w).length = 6 * (w.length / 2)
  | [] => rfl
  | [_] => by simp [hexes]
  | a :: b :: r => by
    have := hexes_len r
    simp only [hexes, List.length_cons]
    omega
theorem quote_hexes (l : List UInt8) (m : Nat) (hm : m = 34 ∨ m = 39) : ∀ (w : List UInt8) (f i : Nat), w.length % 2 = 0 → l.drop i = hexes w ++ [UInt8.ofNat m] → w.length < f → quoteGo l m f i = some (w, i + (hexes w).length + 1)
  | [], f, i, _, h, hf => by
    obtain ⟨f, rfl⟩ : ∃ g, f = g + 1 := ⟨f - 1, by simp at hf; omega⟩
    obtain ⟨h1, h2, -⟩ := drop_at (show l.drop i = UInt8.ofNat m :: [] from h)
    have h3 : (UInt8.ofNat m).toNat = m := by rcases hm with rfl | rfl <;> rfl
    rw [h3] at h2
    have hc := chr_low h1 (by omega)
    rw [quoteGo, hc, h2]
    simp only []
    rw [if_neg (by omega), if_pos trivial]
    rfl
  | [_], f, i, h, _, _ => by simp at h
  | a :: b :: r, f, i, h, hd, hf => by
    obtain ⟨f, rfl⟩ : ∃ g, f = g + 1 := ⟨f - 1, by simp at hf; omega⟩
    have hr : r.length % 2 = 0 := by simp only [List.length_cons] at h; omega
    have la : a.toNat < 256 := a.toNat_lt
    have lb : b.toNat < 256 := b.toNat_lt
    obtain ⟨i0, b0, d0⟩ := drop_at (show l.drop i = 92 :: _ from hd)
    obtain ⟨i1, b1, d1⟩ := drop_at d0
    obtain ⟨i2, b2, d2⟩ := drop_at d1
    obtain ⟨i3, b3, d3⟩ := drop_at d2
    obtain ⟨i4, b4, d4⟩ := drop_at d3
    obtain ⟨i5, b5, d5⟩ := drop_at d4
    rw [show (92 : UInt8).toNat = 92 from rfl] at b0
    rw [show (117 : UInt8).toNat = 117 from rfl] at b1
    obtain ⟨s2, v2⟩ := dg_ok (a.toNat / 16) (by omega)
    obtain ⟨s3, v3⟩ := dg_ok (a.toNat % 16) (by omega)
    obtain ⟨s4, v4⟩ := dg_ok (b.toNat / 16) (by omega)
    obtain ⟨s5, v5⟩ := dg_ok (b.toNat % 16) (by omega)
    have c0 := chr_low i0 (by omega)
    have c1 := chr_low i1 (by omega)
    rw [b0] at c0
    rw [b1] at c1
    have hx : hexGo l 4 (i + 1 + 1) 0 = some ((((0 * 16 + a.toNat / 16) * 16 + a.toNat % 16) * 16 + b.toNat / 16) * 16 + b.toNat % 16, i + 1 + 1 + 1 + 1 + 1 + 1) := by
      rw [hexGo, b2, s2, v2, if_pos rfl, hexGo, b3, s3, v3, if_pos rfl, hexGo, b4, s4, v4, if_pos rfl, hexGo, b5, s5, v5, if_pos rfl, hexGo]
    have hu : unit8 ((((0 * 16 + a.toNat / 16) * 16 + a.toNat % 16) * 16 + b.toNat / 16) * 16 + b.toNat % 16) = [a, b] := by
      unfold unit8
      rw [show ((((0 * 16 + a.toNat / 16) * 16 + a.toNat % 16) * 16 + b.toNat / 16) * 16 + b.toNat % 16) / 256 = a.toNat by omega,
        show ((((0 * 16 + a.toNat / 16) * 16 + a.toNat % 16) * 16 + b.toNat / 16) * 16 + b.toNat % 16) % 256 = b.toNat by omega]
      simp
    have he : escape l (i + 1) = some ([a, b], i + 1 + 1 + 1 + 1 + 1 + 1) := by
      unfold escape
      rw [c1]
      simp only []
      rw [if_neg (by decide), show plainEsc 117 = none from rfl]
      simp only []
      rw [if_neg (by decide), if_pos trivial, hx]
      simp only [Option.map_some, hu]
    have ih := quote_hexes l m hm r f (i + 1 + 1 + 1 + 1 + 1 + 1) hr d5 (by simp only [List.length_cons] at hf; omega)
    rw [quoteGo, c0]
    simp only []
    rw [if_neg (by decide), if_neg (by omega), if_pos trivial, he, Option.bind_some]
    simp only []
    rw [ih]
    simp only [Option.map_some, hexes, List.length_cons, List.cons_append, List.nil_append, Option.some.injEq, Prod.mk.injEq, true_and]
    omega
/-- ANY WIDE TEXT, WRITTEN SO, IS ONE LEXEME THAT SAYS IT -/
theorem lex_hexes (C : List UInt8 → Bool) (m : Nat) (hm : m = 34 ∨ m = 39) (w : List UInt8) (hw : w.length % 2 = 0) :
    lex C (UInt8.ofNat m :: (hexes w ++ [UInt8.ofNat m])) = some (.ok [⟨4, w, [], 0, false⟩]) := by
  obtain ⟨l, hl⟩ : ∃ l, UInt8.ofNat m :: (hexes w ++ [UInt8.ofNat m]) = l := ⟨_, rfl⟩
  rw [hl]
  have h3 : (UInt8.ofNat m).toNat = m := by rcases hm with rfl | rfl <;> rfl
  obtain ⟨i0, b0, d0⟩ := drop_at (show l.drop 0 = _ by rw [List.drop_zero]; exact hl.symm)
  rw [h3] at b0
  have hlen : l.length = (hexes w).length + 2 := by rw [← hl]; simp
  have hle := hexes_len w
  have hq := quote_hexes l m hm w (l.length + 1) (0 + 1) hw d0 (by omega)
  have c0 := chr_low i0 (by omega)
  rw [b0] at c0
  have hd0 : l.drop 0 = UInt8.ofNat m :: (hexes w ++ [UInt8.ofNat m]) := by rw [List.drop_zero]; exact hl.symm
  have np : ∀ y : UInt8, ([47, y] : List UInt8).isPrefixOf (l.drop 0) = false := fun y => by
    rw [hd0, List.isPrefixOf_cons₂]
    rcases hm with rfl | rfl <;> rfl
  have s0 : skip l 0 = .ok (0, false) := by
    unfold skip
    rw [skipGo, if_pos i0, c0]
    simp only []
    rw [if_neg (by decide), if_neg (by rcases hm with rfl | rfl <;> decide), if_neg (by rcases hm with rfl | rfl <;> decide), if_neg (by rw [np]; simp), if_neg (by rw [np]; simp)]
  have s1 : skip l l.length = .ok (l.length, false) := by
    unfold skip
    rw [skipGo, if_neg (by omega)]
  have ho : one C l 0 false = .ok (⟨4, w, [], 0, false⟩, l.length) := by
    unfold one
    rw [b0, if_neg (by rcases hm with rfl | rfl <;> decide), if_neg (by rcases hm with rfl | rfl <;> simp <;> decide), if_pos hm, hq]
    simp only []
    rw [show 0 + 1 + (hexes w).length + 1 = l.length by omega]
  unfold lex
  rw [show l.length + 1 = (l.length - 1 + 1) + 1 by omega, lexGo_one s0 (by omega) ho, lexGo_end s1 rfl]
  rfl
end Lx
end Go.Proofs.YtepmneongpbglaaGreatDoor
