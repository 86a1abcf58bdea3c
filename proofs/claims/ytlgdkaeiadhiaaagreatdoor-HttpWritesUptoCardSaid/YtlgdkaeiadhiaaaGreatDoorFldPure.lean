/- Fields as a form's text: the plain functions that both the program and the document's answer compute. No program in sight. -/
import Derived.Test.YtlgdkaeiadhiaaaGreatDoorBase
import Derived.Lib.Split
import Derived.Lib.Join
namespace Go.Proofs.YtlgdkaeiadhiaaaGreatDoor
open Go Go.RowKit
set_option linter.all false
abbrev Bytes := List UInt8
abbrev Fld := Bytes × Bytes
/-- what a digit of base 16 says; -1: none -/
def hexV (b : Nat) : Int := if 48 ≤ b ∧ b ≤ 57 then (b : Int) - 48 else if 97 ≤ b ∧ b ≤ 102 then (b : Int) - 87 else if 65 ≤ b ∧ b ≤ 70 then (b : Int) - 55 else -1
theorem hexV_range (b : Nat) : -1 ≤ hexV b ∧ hexV b < 16 := by
  unfold hexV
  repeat' split
  all_goals omega
/-- what a name or a value says -/
def said : Bytes → Option Bytes
  | [] => some []
  | b :: r =>
    if b = 43 then (said r).map (32 :: ·)
    else if b = 37 then
      if r.length < 2 ∨ hexV (by8 r 0) < 0 ∨ hexV (by8 r 1) < 0 then none else (said (r.drop 2)).map (B8 (hexV (by8 r 0) * 16 + hexV (by8 r 1)) :: ·)
    else (said r).map (b :: ·)
termination_by l => l.length
decreasing_by all_goals (simp; try omega)
theorem said_nil : said [] = some [] := by rw [said]
/-- the pieces between the & -/
def pieces : Bytes → List Bytes
  | [] => [[]]
  | b :: r => if b = 38 then [] :: pieces r else (b :: (pieces r).headD []) :: (pieces r).tail
theorem pieces_ne (l : Bytes) : pieces l ≠ [] := by
  cases l with
  | nil => simp [pieces]
  | cons b r =>
    unfold pieces
    split <;> simp
def nameOf (p : Bytes) : Bytes := p.takeWhile (· != 61)
def valueOf (p : Bytes) : Bytes := (p.dropWhile (· != 61)).drop 1
def field (p : Bytes) : Option Fld :=
  match said (nameOf p), said (valueOf p) with
  | some n, some v => some (n, v)
  | _, _ => none
def fieldsOf : List Bytes → Option (List Fld)
  | [] => some []
  | p :: ps => if p = [] then fieldsOf ps else
    match field p with
    | none => none
    | some f => (fieldsOf ps).map (f :: ·)
/-- a form's fields; the error's number -/
def parse (l : Bytes) : List Fld × Int :=
  if l.length > 4096 then ([], 2) else
  match fieldsOf (pieces l) with
  | none => ([], 210)
  | some fs => if fs.length > 32 then ([], 4) else (fs, 0)
/-- a byte that is written as it is -/
def plainB (b : Nat) : Bool := (97 ≤ b && b ≤ 122) || (65 ≤ b && b ≤ 90) || (48 ≤ b && b ≤ 57) || b == 42 || b == 45 || b == 46 || b == 95
def hexD (n : Nat) : UInt8 := UInt8.ofNat (if n < 10 then 48 + n else 55 + n)
def codedB (b : UInt8) : Bytes := if plainB b.toNat then [b] else if b = 32 then [43] else [37, hexD (b.toNat / 16), hexD (b.toNat % 16)]
def coded (l : Bytes) : Bytes := l.flatMap codedB
def part (f : Fld) : Bytes := coded f.1 ++ [61] ++ coded f.2
def joined (fs : List Fld) : Bytes := Lib.join (fs.map part) [38]
def write (fs : List Fld) : Bytes × Int :=
  if fs.length > 32 then ([], 4) else if (joined fs).length > 4096 then ([], 2) else (joined fs, 0)
def find (fs : List Fld) (name : Bytes) : Bytes × Bool :=
  match fs.find? (fun f => f.1 == name) with
  | some f => (f.2, true)
  | none => ([], false)
/-! ### said, byte by byte -/
theorem drop_at (l : Bytes) (i : Nat) (h : i < l.length) : l.drop i = l.getD i 0 :: l.drop (i + 1) := by
  rw [List.drop_eq_getElem_cons h]; simp [h]
theorem said_end (l : Bytes) (i : Nat) (h : l.length ≤ i) : said (l.drop i) = some [] := by rw [List.drop_eq_nil_of_le h, said_nil]
theorem at_lit (l : Bytes) (i : Nat) (c : UInt8) (n : Nat) (hc : c.toNat = n) : l.getD i 0 = c ↔ by8 l i = n := by
  subst hc
  exact UInt8.toNat_inj.symm
theorem at43 (l : Bytes) (i : Nat) : l.getD i 0 = 43 ↔ by8 l i = 43 := at_lit l i 43 43 rfl
theorem at37 (l : Bytes) (i : Nat) : l.getD i 0 = 37 ↔ by8 l i = 37 := at_lit l i 37 37 rfl
theorem said_plus (l : Bytes) (i : Nat) (h : i < l.length) (hb : by8 l i = 43) : said (l.drop i) = (said (l.drop (i + 1))).map (32 :: ·) := by
  rw [drop_at l i h, said, if_pos ((at43 l i).2 hb)]
theorem said_other (l : Bytes) (i : Nat) (h : i < l.length) (hb : by8 l i ≠ 43) (hc : by8 l i ≠ 37) : said (l.drop i) = (said (l.drop (i + 1))).map (l.getD i 0 :: ·) := by
  rw [drop_at l i h, said, if_neg (fun e => hb ((at43 l i).1 e)), if_neg (fun e => hc ((at37 l i).1 e))]
theorem pct_ne (l : Bytes) (i : Nat) (hb : by8 l i = 37) : ¬ l.getD i 0 = 43 := fun e => by
  have := (at43 l i).1 e
  omega
theorem said_short (l : Bytes) (i : Nat) (h : i < l.length) (hb : by8 l i = 37) (hs : l.length ≤ i + 2) : said (l.drop i) = none := by
  rw [drop_at l i h, said, if_neg (pct_ne l i hb), if_pos ((at37 l i).2 hb), if_pos (Or.inl (by simp; omega))]
theorem by8_drop (l : Bytes) (i j : Nat) : by8 (l.drop i) j = by8 l (i + j) := by
  unfold by8; simp [List.getD]
theorem said_pct (l : Bytes) (i : Nat) (h : i + 2 < l.length) (hb : by8 l i = 37) : said (l.drop i) = if hexV (by8 l (i + 1)) < 0 ∨ hexV (by8 l (i + 2)) < 0 then none else (said (l.drop (i + 3))).map (B8 (hexV (by8 l (i + 1)) * 16 + hexV (by8 l (i + 2))) :: ·) := by
  have hl : ¬ (l.drop (i + 1)).length < 2 := by simp; omega
  rw [drop_at l i (by omega), said, if_neg (pct_ne l i hb), if_pos ((at37 l i).2 hb)]
  simp only [by8_drop, hl, false_or, List.drop_drop]
end Go.Proofs.YtlgdkaeiadhiaaaGreatDoor
