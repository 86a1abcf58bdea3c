/- The layer utf in plain Lean, the other way: units as characters, characters as bytes. The layer utf in plain Lean: joined texts, great and small letters twice. The layer utf in plain Lean: characters as bytes and back, units and back. -/
import Derived.Test.YtapgibcdbggpkaaGreatDoorUtfPure
namespace Go.Proofs.YtapgibcdbggpkaaGreatDoor
open Go Go.RowKit
set_option linter.all false
/-- a character's bytes -/
def enc (c : Nat) : List UInt8 :=
  if c < 128 then [UInt8.ofNat c]
  else if c < 2048 then [UInt8.ofNat (192 + c / 64), UInt8.ofNat (128 + c % 64)]
  else if c < 65536 then [UInt8.ofNat (224 + c / 4096), UInt8.ofNat (128 + c / 64 % 64), UInt8.ofNat (128 + c % 64)]
  else [UInt8.ofNat (240 + c / 262144), UInt8.ofNat (128 + c / 4096 % 64), UInt8.ofNat (128 + c / 64 % 64), UInt8.ofNat (128 + c % 64)]
@[go_sem] theorem enc_length_le (c : Nat) : (enc c).length ≤ 4 := by
  unfold enc
  repeat' split
  all_goals simp
/-- what the units from number i on begin with: a character, and how many units it takes -/
def nst (l : List UInt8) (i : Nat) : Nat × Nat :=
  if (55296 ≤ at16 l i ∧ at16 l i < 56320) ∧ i + 1 < l.length / 2 ∧ (56320 ≤ at16 l (i + 1) ∧ at16 l (i + 1) < 57344) then (65536 + (at16 l i - 55296) * 1024 + at16 l (i + 1) - 56320, 2)
  else if 55296 ≤ at16 l i ∧ at16 l i < 57344 then (65533, 1)
  else (at16 l i, 1)
theorem nst_pos (l : List UInt8) (i : Nat) : 1 ≤ (nst l i).2 := by
  unfold nst
  repeat' split
  all_goals simp
/-- a character that may be -/
def okc (c : Nat) : Prop := c < 55296 ∨ (57344 ≤ c ∧ c ≤ 1114111)
def narGo (l : List UInt8) (i : Nat) (acc : List UInt8) : List UInt8 :=
  if i < l.length / 2 then narGo l (i + (nst l i).2) (acc ++ enc (nst l i).1) else acc
termination_by l.length / 2 - i
decreasing_by have := nst_pos l i; omega
def narR (l : List UInt8) : List UInt8 × Nat := if l.length % 2 = 1 then ([], 11) else (narGo l 0 [], 0)
end Go.Proofs.YtapgibcdbggpkaaGreatDoor
namespace Go.Proofs.YtapgibcdbggpkaaGreatDoor
open Go Go.RowKit
set_option linter.all false
end Go.Proofs.YtapgibcdbggpkaaGreatDoor
namespace Go.Proofs.YtapgibcdbggpkaaGreatDoor
open Go Go.RowKit
set_option linter.all false
theorem by8_cons (b : UInt8) (t : List UInt8) (k : Nat) : by8 (b :: t) (k + 1) = by8 t k := rfl
end Go.Proofs.YtapgibcdbggpkaaGreatDoor
