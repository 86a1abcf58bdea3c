/- Layer 5, in plain words: a script's bytes as lexemes. -/
import Derived.Test.YtepmneongpbglaaGreatDoorUtfPure
namespace Go.Proofs.YtepmneongpbglaaGreatDoor
open Go Go.RowKit
set_option linter.all false
namespace Lx
def letter (b : Nat) : Bool := decide ((97 ≤ b ∧ b ≤ 122) ∨ (65 ≤ b ∧ b ≤ 90) ∨ b = 95 ∨ b = 36)
def digit (b : Nat) : Bool := decide (48 ≤ b ∧ b ≤ 57)
def sixteen (b : Nat) : Bool := decide ((48 ≤ b ∧ b ≤ 57) ∨ (97 ≤ b ∧ b ≤ 102) ∨ (65 ≤ b ∧ b ≤ 70))
def endsC (c : Nat) : Bool := decide (c = 10 ∨ c = 13 ∨ c = 8232 ∨ c = 8233)
def blankC (c : Nat) : Bool := decide (c = 9 ∨ c = 11 ∨ c = 12 ∨ c = 32 ∨ c = 160 ∨ c = 65279)
/-- the least place at which a text stands -/
def idx (t : List UInt8) : List UInt8 → Option Nat
  | [] => if t = [] then some 0 else none
  | b :: r => if t.isPrefixOf (b :: r) then some 0 else (idx t r).map (· + 1)
/-- the place behind the bytes of a sort from a place on -/
def runGo (p : Nat → Bool) : List UInt8 → Nat
  | [] => 0
  | b :: r => if p b.toNat then runGo p r + 1 else 0
def run (p : Nat → Bool) (l : List UInt8) (i : Nat) : Nat := i + runGo p (l.drop i)
/-- behind a remark of one line; or where it is not UTF-8 -/
def lineGo (l : List UInt8) : Nat → Nat → Except Nat Nat
  | 0, i => .ok i
  | f + 1, i => if i < l.length then (if (chr l i).2 = 0 then .error i else if endsC (chr l i).1 then .ok i else lineGo l f (i + (chr l i).2)) else .ok i
/-- a remark's characters: is there a line end? none: not UTF-8 -/
def remGo (s : List UInt8) : Nat → Nat → Option Bool
  | 0, _ => some false
  | f + 1, i => if i < s.length then (if (chr s i).2 = 0 then none else (remGo s f (i + (chr s i).2)).map (endsC (chr s i).1 || ·)) else some false
def remark (s : List UInt8) : Option Bool := remGo s (s.length + 1) 0
/-- behind what says nothing: the place, was there a line end; or where it is wrong -/
def skipGo (l : List UInt8) : Nat → Nat → Bool → Except Nat (Nat × Bool)
  | 0, i, ln => .ok (i, ln)
  | f + 1, i, ln =>
    if i < l.length then
      if (chr l i).2 = 0 then .error i
      else if endsC (chr l i).1 then skipGo l f (i + (chr l i).2) true
      else if blankC (chr l i).1 then skipGo l f (i + (chr l i).2) ln
      else if [47, 47].isPrefixOf (l.drop i) then
        match lineGo l (l.length + 1) i with
        | .error k => .error k
        | .ok j => skipGo l f j ln
      else if [47, 42].isPrefixOf (l.drop i) then
        match idx [42, 47] (l.drop (i + 2)) with
        | none => .error i
        | some k =>
          match remark (sub l (i + 2) (i + 2 + k)) with
          | none => .error i
          | some e => skipGo l f (i + k + 4) (ln || e)
      else .ok (i, ln)
    else .ok (i, ln)
def skip (l : List UInt8) (i : Nat) : Except Nat (Nat × Bool) := skipGo l (l.length + 1) i false
/-- behind a point and digits, where they stand; behind a sign -/
def ptd (l : List UInt8) (a : Nat) : Nat := if by8 l a = 46 then run digit l (a + 1) else a
def sgn (l : List UInt8) (b : Nat) : Nat := if by8 l b = 43 ∨ by8 l b = 45 then b + 1 else b
/-- the place behind a number -/
def numEnd (l : List UInt8) (i : Nat) : Option Nat :=
  if by8 l i = 48 ∧ i + 1 < l.length ∧ (by8 l (i + 1) = 120 ∨ by8 l (i + 1) = 88) then
    (if run sixteen l (i + 2) = i + 2 then none else some (run sixteen l (i + 2)))
  else if 1 < run digit l i - i ∧ by8 l i = 48 then none
  else if by8 l (ptd l (run digit l i)) = 101 ∨ by8 l (ptd l (run digit l i)) = 69 then
    (if run digit l (sgn l (ptd l (run digit l i) + 1)) = sgn l (ptd l (run digit l i) + 1) then none else some (run digit l (sgn l (ptd l (run digit l i) + 1))))
  else some (ptd l (run digit l i))
def numeral (l : List UInt8) (i : Nat) : Option Nat := (numEnd l i).bind fun e => if letter (by8 l e) || digit (by8 l e) then none else some e
/-- a character's units -/
def units (c : Nat) : List UInt8 := if c < 65536 then unit8 c else unit8 (55296 + (c - 65536) / 1024) ++ unit8 (56320 + (c - 65536) % 1024)
def hexv (b : Nat) : Nat := if digit b then b - 48 else if 97 ≤ b then b - 87 else b - 55
/-- n digits of sixteen as a unit -/
def hexGo (l : List UInt8) : Nat → Nat → Nat → Option (Nat × Nat)
  | 0, i, u => some (u, i)
  | n + 1, i, u => if sixteen (by8 l i) then hexGo l n (i + 1) (u * 16 + hexv (by8 l i)) else none
def plainEsc (c : Nat) : Option Nat :=
  if c = 98 then some 8 else if c = 116 then some 9 else if c = 110 then some 10 else if c = 118 then some 11 else if c = 102 then some 12 else if c = 114 then some 13 else none
/-- what stands behind a backslash -/
def escape (l : List UInt8) (i : Nat) : Option (List UInt8 × Nat) :=
  let c := (chr l i).1
  let j := i + (chr l i).2
  if (chr l i).2 = 0 then none
  else match plainEsc c with
    | some v => some ([0, UInt8.ofNat v], j)
    | none =>
      if c = 120 then (hexGo l 2 j 0).map fun x => (unit8 x.1, x.2)
      else if c = 117 then (hexGo l 4 j 0).map fun x => (unit8 x.1, x.2)
      else if c = 48 then (if digit (by8 l j) then none else some ([0, 0], j))
      else if 49 ≤ c ∧ c ≤ 57 then none
      else if c = 13 ∧ by8 l j = 10 then some ([], j + 1)
      else if endsC c then some ([], j)
      else some (units c, j)
/-- a text behind its first mark -/
def quoteGo (l : List UInt8) (m : Nat) : Nat → Nat → Option (List UInt8 × Nat)
  | 0, _ => none
  | f + 1, i =>
    if (chr l i).2 = 0 ∨ (chr l i).1 = 10 ∨ (chr l i).1 = 13 then none
    else if (chr l i).1 = m then some ([], i + (chr l i).2)
    else if (chr l i).1 = 92 then (escape l (i + (chr l i).2)).bind fun x => (quoteGo l m f x.2).map fun y => (x.1 ++ y.1, y.2)
    else (quoteGo l m f (i + (chr l i).2)).map fun y => (units (chr l i).1 ++ y.1, y.2)
def marks : List (List UInt8) := [[62, 62, 62], [61, 61, 61], [33, 61, 61], [60, 61], [62, 61], [61, 61], [33, 61], [43, 43], [45, 45], [60, 60], [62, 62], [38, 38], [124, 124], [43, 61], [45, 61], [42, 61], [47, 61], [37, 61], [123], [125], [40], [41], [91], [93], [59], [44], [46], [60], [62], [43], [45], [42], [47], [37], [38], [124], [94], [33], [126], [63], [58], [61]]
def wordList : List UInt8 := [32, 98, 114, 101, 97, 107, 32, 99, 97, 115, 101, 32, 99, 97, 116, 99, 104, 32, 99, 108, 97, 115, 115, 32, 99, 111, 110, 115, 116, 32, 99, 111, 110, 116, 105, 110, 117, 101, 32, 100, 101, 98, 117, 103, 103, 101, 114, 32, 100, 101, 102, 97, 117, 108, 116, 32, 100, 101, 108, 101, 116, 101, 32, 100, 111, 32, 101, 108, 115, 101, 32, 101, 110, 117, 109, 32, 101, 120, 112, 111, 114, 116, 32, 101, 120, 116, 101, 110, 100, 115, 32, 102, 97, 108, 115, 101, 32, 102, 105, 110, 97, 108, 108, 121, 32, 102, 111, 114, 32, 102, 117, 110, 99, 116, 105, 111, 110, 32, 105, 102, 32, 105, 109, 112, 111, 114, 116, 32, 105, 110, 32, 105, 110, 115, 116, 97, 110, 99, 101, 111, 102, 32, 108, 101, 116, 32, 110, 101, 119, 32, 110, 117, 108, 108, 32, 114, 101, 116, 117, 114, 110, 32, 115, 117, 112, 101, 114, 32, 115, 119, 105, 116, 99, 104, 32, 116, 104, 105, 115, 32, 116, 104, 114, 111, 119, 32, 116, 114, 117, 101, 32, 116, 114, 121, 32, 116, 121, 112, 101, 111, 102, 32, 118, 97, 114, 32, 118, 111, 105, 100, 32, 119, 104, 105, 108, 101, 32, 119, 105, 116, 104, 32, 121, 105, 101, 108, 100, 32]
def word (s : List UInt8) : Bool := !s.isEmpty && (!s.contains 32 && (idx (32 :: (s ++ [32])) wordList).isSome)
/-- is it spelt as a name? -/
def spelt (s : List UInt8) : Bool := match s with
  | [] => false
  | b :: r => letter b.toNat && r.all fun c => letter c.toNat || digit c.toNat
def nameB (s : List UInt8) : Bool := spelt s && !word s
/-- a lexeme; a number is told by its bytes -/
structure Lx where
  kind : Nat
  text : List UInt8
  num : List UInt8
  at_ : Nat
  line : Bool
/-- a lexeme at a place, and the place behind it; 'error true': a number of those that nothing is said about -/
def one (C : List UInt8 → Bool) (l : List UInt8) (i : Nat) (ln : Bool) : Except Bool (Lx × Nat) :=
  if letter (by8 l i) then
    let e := run (fun b => letter b || digit b) l i
    .ok (⟨if word (sub l i e) then 2 else 1, sub l i e, [], i, ln⟩, e)
  else if digit (by8 l i) || (by8 l i == 46 && digit (by8 l (i + 1))) then
    match numeral l i with
    | none => .error false
    | some e => if C (sub l i e) then .ok (⟨3, [], sub l i e, i, ln⟩, e) else .error true
  else if by8 l i = 34 ∨ by8 l i = 39 then
    match quoteGo l (by8 l i) (l.length + 1) (i + 1) with
    | none => .error false
    | some (t, e) => .ok (⟨4, t, [], i, ln⟩, e)
  else match marks.find? fun m => m.isPrefixOf (l.drop i) with
    | none => .error false
    | some m => .ok (⟨5, m, [], i, ln⟩, i + m.length)
/-- how a script ends: its lexemes; a fault's place; none: such a number -/
def lexGo (C : List UInt8 → Bool) (l : List UInt8) : Nat → Nat → Option (Except Nat (List Lx))
  | 0, _ => none
  | f + 1, i =>
    match skip l i with
    | .error k => some (.error k)
    | .ok (j, ln) =>
      if j = l.length then some (.ok [])
      else match one C l j ln with
        | .error true => none
        | .error false => some (.error j)
        | .ok (x, k) => (lexGo C l f k).map fun r => r.map (x :: ·)
def lex (C : List UInt8 → Bool) (l : List UInt8) : Option (Except Nat (List Lx)) := lexGo C l (l.length + 1) 0
def tA : List UInt8 := [97, 49, 43, 61, 48, 120, 49, 70, 32, 47, 42, 10, 42, 47, 32, 34, 92, 120, 52, 49, 34]
def tB : List UInt8 := [120, 32, 48, 49]
def n1F : List UInt8 := [48, 120, 49, 70]
theorem lexGo_end {C : List UInt8 → Bool} {l : List UInt8} {f i j : Nat} {ln : Bool} (h : skip l i = .ok (j, ln)) (hj : j = l.length) : lexGo C l (f + 1) i = some (.ok []) := by
  rw [lexGo, h]; simp only []; rw [if_pos hj]
theorem lexGo_one {C : List UInt8 → Bool} {l : List UInt8} {f i j k : Nat} {ln : Bool} {x : Lx} (h : skip l i = .ok (j, ln)) (hj : j ≠ l.length) (ho : one C l j ln = .ok (x, k)) : lexGo C l (f + 1) i = (lexGo C l f k).map fun r => r.map (x :: ·) := by
  rw [lexGo, h]; simp only []; rw [if_neg hj, ho]
theorem lex_a (C : List UInt8 → Bool) (h : C n1F = true) : lex C tA = some (.ok [⟨1, [97, 49], [], 0, false⟩, ⟨5, [43, 61], [], 2, false⟩, ⟨3, [], n1F, 4, false⟩, ⟨4, [0, 65], [], 15, true⟩]) := by
  have o2 : one C tA 4 false = if C n1F then .ok (⟨3, [], n1F, 4, false⟩, 8) else .error true := by kernel_rfl
  rw [h, if_pos rfl] at o2
  show lexGo C tA (17 + 1 + 1 + 1 + 1 + 1) 0 = _
  rw [lexGo_one (show skip tA 0 = .ok (0, false) by kernel_rfl) (by decide) (show one C tA 0 false = .ok (⟨1, [97, 49], [], 0, false⟩, 2) by kernel_rfl),
    lexGo_one (show skip tA 2 = .ok (2, false) by kernel_rfl) (by decide) (show one C tA 2 false = .ok (⟨5, [43, 61], [], 2, false⟩, 4) by kernel_rfl),
    lexGo_one (show skip tA 4 = .ok (4, false) by kernel_rfl) (by decide) o2,
    lexGo_one (show skip tA 8 = .ok (15, true) by kernel_rfl) (by decide) (show one C tA 15 true = .ok (⟨4, [0, 65], [], 15, true⟩, 21) by kernel_rfl),
    lexGo_end (show skip tA 21 = .ok (21, false) by kernel_rfl) (by decide)]
  rfl
set_option maxRecDepth 1000000 in
theorem lex_b (C : List UInt8 → Bool) : lex C tB = some (.error 2) := by kernel_rfl
theorem word_if : word [105, 102] = true := by kernel_rfl
end Lx
end Go.Proofs.YtepmneongpbglaaGreatDoor
