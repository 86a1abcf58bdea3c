/- Layer 4, in plain words: a wide text without blanks at its ends, as bytes; the bytes of a set; a decimal number. -/
import Derived.Test.YtclaoeoofbobmaaGreatDoorUtfPure
namespace Go.Proofs.YtclaoeoofbobmaaGreatDoor
open Go Go.RowKit
set_option linter.all false
namespace Nm
def blank (u : Nat) : Bool := decide ((9 ≤ u ∧ u ≤ 13) ∨ u = 32 ∨ u = 160 ∨ u = 65279)
/-- behind the blanks ahead -/
def fromGo (l : List UInt8) (to : Nat) : Nat → Nat → Nat
  | 0, i => i
  | f + 1, i => if i < to then (if blank (at16 l i) then fromGo l to f (i + 1) else i) else i
/-- ahead of the blanks behind -/
def toGo (l : List UInt8) (a : Nat) : Nat → Nat
  | 0 => 0
  | t + 1 => if a < t + 1 then (if blank (at16 l t) then toGo l a t else t + 1) else t + 1
/-- units below 128, as bytes -/
def bytesGo (l : List UInt8) (to : Nat) : Nat → Nat → Option (List UInt8)
  | 0, _ => some []
  | f + 1, i => if i < to then (if 127 < at16 l i then none else (bytesGo l to f (i + 1)).map (UInt8.ofNat (at16 l i) :: ·)) else some []
def fromI (l : List UInt8) : Nat := fromGo l (l.length / 2) (l.length / 2) 0
def toI (l : List UInt8) : Nat := toGo l (fromI l) (l.length / 2)
def plain (l : List UInt8) : Option (List UInt8) := bytesGo l (toI l) (toI l - fromI l) (fromI l)
theorem fromGo_le (l : List UInt8) (to : Nat) : ∀ f i, i ≤ to → i ≤ fromGo l to f i ∧ fromGo l to f i ≤ to
  | 0, i, h => ⟨Nat.le_refl _, h⟩
  | f + 1, i, h => by
    rw [fromGo]
    split
    · split
      · have := fromGo_le l to f (i + 1) (by omega); omega
      · omega
    · omega
theorem toGo_le (l : List UInt8) (a : Nat) : ∀ t, toGo l a t ≤ t ∧ (a ≤ t → a ≤ toGo l a t)
  | 0 => ⟨Nat.le_refl _, fun h => h⟩
  | t + 1 => by
    rw [toGo]
    have := toGo_le l a t
    split
    · split
      · exact ⟨by omega, fun h => this.2 (by omega)⟩
      · exact ⟨Nat.le_refl _, fun h => h⟩
    · exact ⟨Nat.le_refl _, fun h => h⟩
theorem fromI_le (l : List UInt8) : fromI l ≤ l.length / 2 := (fromGo_le l _ _ 0 (Nat.zero_le _)).2
theorem toI_le (l : List UInt8) : fromI l ≤ toI l ∧ toI l ≤ l.length / 2 := ⟨(toGo_le l _ _).2 (fromI_le l), (toGo_le l _ _).1⟩
theorem bytesGo_len (l : List UInt8) (to : Nat) : ∀ f i t, bytesGo l to f i = some t → t.length ≤ f
  | 0, i, t, h => by cases h; simp
  | f + 1, i, t, h => by
    rw [bytesGo] at h
    split at h
    · split at h
      · cases h
      · rcases hr : bytesGo l to f (i + 1) with _ | r
        · rw [hr] at h; cases h
        · rw [hr] at h
          cases h
          have := bytesGo_len l to f _ _ hr
          simp only [List.length_cons]; omega
    · cases h; simp
theorem plain_len {l t : List UInt8} (h : plain l = some t) : t.length ≤ l.length / 2 := by
  have := bytesGo_len l _ _ _ _ h
  have := toI_le l
  omega
/-- how many bytes of a set a text begins with -/
def runGo (set : List UInt8) : List UInt8 → Nat
  | [] => 0
  | b :: r => if set.contains b then runGo set r + 1 else 0
theorem runGo_le (set : List UInt8) : ∀ l, runGo set l ≤ l.length
  | [] => Nat.le_refl _
  | b :: r => by
    rw [runGo]
    have := runGo_le set r
    split <;> simp only [List.length_cons] <;> omega
def digits : List UInt8 := [48, 49, 50, 51, 52, 53, 54, 55, 56, 57]
def hexes : List UInt8 := [48, 49, 50, 51, 52, 53, 54, 55, 56, 57, 97, 98, 99, 100, 101, 102, 65, 66, 67, 68, 69, 70]
/-- behind a sign -/
def unsign : List UInt8 → List UInt8
  | [] => []
  | b :: r => if b = 43 ∨ b = 45 then r else b :: r
/-- what is left behind the digits and a point with digits; how many digits -/
def mantEnd (s : List UInt8) : Nat × List UInt8 := match s.drop (runGo digits s) with
  | [] => (runGo digits s, [])
  | b :: r => if b = 46 then (runGo digits s + runGo digits r, r.drop (runGo digits r)) else (runGo digits s, b :: r)
def expEnd (s : List UInt8) : Bool := match s with
  | [] => true
  | b :: r => if b = 101 ∨ b = 69 then decide (0 < runGo digits (unsign r) ∧ runGo digits (unsign r) = (unsign r).length) else false
/-- is it a decimal number without a sign? -/
def decimal (s : List UInt8) : Bool := if (mantEnd s).1 = 0 then false else expEnd (mantEnd s).2
/-- is it written by sixteens? -/
def isHex (s : List UInt8) : Bool := decide (2 < s.length ∧ by8 s 0 = 48 ∧ (by8 s 1 = 120 ∨ by8 s 1 = 88) ∧ runGo hexes (s.drop 2) = s.length - 2)
/-- Infinity -/
def infW : List UInt8 := [73, 110, 102, 105, 110, 105, 116, 121]
/-- what the number of a wide text is read of; none: no number -/
def source (w : List UInt8) : Option (List UInt8) := match plain w with
  | none => none
  | some s => if s = [] then some [] else if isHex s then some (s ++ [112, 48]) else if unsign s ≠ infW ∧ decimal (unsign s) = false then none else some s
end Nm
end Go.Proofs.YtclaoeoofbobmaaGreatDoor
