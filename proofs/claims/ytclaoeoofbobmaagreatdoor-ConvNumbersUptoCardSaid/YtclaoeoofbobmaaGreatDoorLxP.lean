/- Layer 5, in plain words: a script's bytes as lexemes. Layer 5, in plain words: where a word stands in the list of words. Layer 5, in plain words: where lexemes stand. Layer 5, in plain words: a blank ahead moves all by one. Layer 5, in plain words: a number's bytes are plain ones; plain bytes as a wide text. -/
import Derived.Test.YtclaoeoofbobmaaGreatDoorUtfPure
import Derived.Lib.Bytealg
import Derived.Lib.Index
import Derived.Test.YtclaoeoofbobmaaGreatDoorUtX
namespace Go.Proofs.YtclaoeoofbobmaaGreatDoor
open Go Go.RowKit
set_option linter.all false
namespace Lx
def letter (b : Nat) : Bool := decide ((97 ≤ b ∧ b ≤ 122) ∨ (65 ≤ b ∧ b ≤ 90) ∨ b = 95 ∨ b = 36)
def digit (b : Nat) : Bool := decide (48 ≤ b ∧ b ≤ 57)
def sixteen (b : Nat) : Bool := decide ((48 ≤ b ∧ b ≤ 57) ∨ (97 ≤ b ∧ b ≤ 102) ∨ (65 ≤ b ∧ b ≤ 70))
def endsC (c : Nat) : Bool := decide (c = 10 ∨ c = 13 ∨ c = 8232 ∨ c = 8233)
def blankC (c : Nat) : Bool := decide (c = 9 ∨ c = 11 ∨ c = 12 ∨ c = 32 ∨ c = 160 ∨ c = 65279)
/-- the least place at which a text stands -/
def idx (t : List UInt8) : List UInt8 → Option Nat
  | [] => if t = [] then some 0 else none
  | b :: r => if t.isPrefixOf (b :: r) then some 0 else (idx t r).map (· + 1)
/-- the place behind the bytes of a sort from a place on -/
def runGo (p : Nat → Bool) : List UInt8 → Nat
  | [] => 0
  | b :: r => if p b.toNat then runGo p r + 1 else 0
def run (p : Nat → Bool) (l : List UInt8) (i : Nat) : Nat := i + runGo p (l.drop i)
/-- behind a remark of one line; or where it is not UTF-8 -/
def lineGo (l : List UInt8) : Nat → Nat → Except Nat Nat
  | 0, i => .ok i
  | f + 1, i => if i < l.length then (if (chr l i).2 = 0 then .error i else if endsC (chr l i).1 then .ok i else lineGo l f (i + (chr l i).2)) else .ok i
/-- a remark's characters: is there a line end? none: not UTF-8 -/
def remGo (s : List UInt8) : Nat → Nat → Option Bool
  | 0, _ => some false
  | f + 1, i => if i < s.length then (if (chr s i).2 = 0 then none else (remGo s f (i + (chr s i).2)).map (endsC (chr s i).1 || ·)) else some false
def remark (s : List UInt8) : Option Bool := remGo s (s.length + 1) 0
/-- behind what says nothing: the place, was there a line end; or where it is wrong -/
def skipGo (l : List UInt8) : Nat → Nat → Bool → Except Nat (Nat × Bool)
  | 0, i, ln => .ok (i, ln)
  | f + 1, i, ln =>
    if i < l.length then
      if (chr l i).2 = 0 then .error i
      else if endsC (chr l i).1 then skipGo l f (i + (chr l i).2) true
      else if blankC (chr l i).1 then skipGo l f (i + (chr l i).2) ln
      else if [47, 47].isPrefixOf (l.drop i) then
        match lineGo l (l.length + 1) i with
        | .error k => .error k
        | .ok j => skipGo l f j ln
      else if [47, 42].isPrefixOf (l.drop i) then
        match idx [42, 47] (l.drop (i + 2)) with
        | none => .error i
        | some k =>
          match remark (sub l (i + 2) (i + 2 + k)) with
          | none => .error i
          | some e => skipGo l f (i + k + 4) (ln || e)
      else .ok (i, ln)
    else .ok (i, ln)
def skip (l : List UInt8) (i : Nat) : Except Nat (Nat × Bool) := skipGo l (l.length + 1) i false
/-- behind a point and digits, where they stand; behind a sign -/
def ptd (l : List UInt8) (a : Nat) : Nat := if by8 l a = 46 then run digit l (a + 1) else a
def sgn (l : List UInt8) (b : Nat) : Nat := if by8 l b = 43 ∨ by8 l b = 45 then b + 1 else b
/-- the place behind a number -/
def numEnd (l : List UInt8) (i : Nat) : Option Nat :=
  if by8 l i = 48 ∧ i + 1 < l.length ∧ (by8 l (i + 1) = 120 ∨ by8 l (i + 1) = 88) then
    (if run sixteen l (i + 2) = i + 2 then none else some (run sixteen l (i + 2)))
  else if 1 < run digit l i - i ∧ by8 l i = 48 then none
  else if by8 l (ptd l (run digit l i)) = 101 ∨ by8 l (ptd l (run digit l i)) = 69 then
    (if run digit l (sgn l (ptd l (run digit l i) + 1)) = sgn l (ptd l (run digit l i) + 1) then none else some (run digit l (sgn l (ptd l (run digit l i) + 1))))
  else some (ptd l (run digit l i))
def numeral (l : List UInt8) (i : Nat) : Option Nat := (numEnd l i).bind fun e => if letter (by8 l e) || digit (by8 l e) then none else some e
/-- a character's units -/
def units (c : Nat) : List UInt8 := if c < 65536 then unit8 c else unit8 (55296 + (c - 65536) / 1024) ++ unit8 (56320 + (c - 65536) % 1024)
def hexv (b : Nat) : Nat := if digit b then b - 48 else if 97 ≤ b then b - 87 else b - 55
/-- n digits of sixteen as a unit -/
def hexGo (l : List UInt8) : Nat → Nat → Nat → Option (Nat × Nat)
  | 0, i, u => some (u, i)
  | n + 1, i, u => if sixteen (by8 l i) then hexGo l n (i + 1) (u * 16 + hexv (by8 l i)) else none
def plainEsc (c : Nat) : Option Nat :=
  if c = 98 then some 8 else if c = 116 then some 9 else if c = 110 then some 10 else if c = 118 then some 11 else if c = 102 then some 12 else if c = 114 then some 13 else none
/-- what stands behind a backslash -/
def escape (l : List UInt8) (i : Nat) : Option (List UInt8 × Nat) :=
  let c := (chr l i).1
  let j := i + (chr l i).2
  if (chr l i).2 = 0 then none
  else match plainEsc c with
    | some v => some ([0, UInt8.ofNat v], j)
    | none =>
      if c = 120 then (hexGo l 2 j 0).map fun x => (unit8 x.1, x.2)
      else if c = 117 then (hexGo l 4 j 0).map fun x => (unit8 x.1, x.2)
      else if c = 48 then (if digit (by8 l j) then none else some ([0, 0], j))
      else if 49 ≤ c ∧ c ≤ 57 then none
      else if c = 13 ∧ by8 l j = 10 then some ([], j + 1)
      else if endsC c then some ([], j)
      else some (units c, j)
/-- a text behind its first mark -/
def quoteGo (l : List UInt8) (m : Nat) : Nat → Nat → Option (List UInt8 × Nat)
  | 0, _ => none
  | f + 1, i =>
    if (chr l i).2 = 0 ∨ (chr l i).1 = 10 ∨ (chr l i).1 = 13 then none
    else if (chr l i).1 = m then some ([], i + (chr l i).2)
    else if (chr l i).1 = 92 then (escape l (i + (chr l i).2)).bind fun x => (quoteGo l m f x.2).map fun y => (x.1 ++ y.1, y.2)
    else (quoteGo l m f (i + (chr l i).2)).map fun y => (units (chr l i).1 ++ y.1, y.2)
def marks : List (List UInt8) := [[62, 62, 62], [61, 61, 61], [33, 61, 61], [60, 61], [62, 61], [61, 61], [33, 61], [43, 43], [45, 45], [60, 60], [62, 62], [38, 38], [124, 124], [43, 61], [45, 61], [42, 61], [47, 61], [37, 61], [123], [125], [40], [41], [91], [93], [59], [44], [46], [60], [62], [43], [45], [42], [47], [37], [38], [124], [94], [33], [126], [63], [58], [61]]
def wordList : List UInt8 := [32, 98, 114, 101, 97, 107, 32, 99, 97, 115, 101, 32, 99, 97, 116, 99, 104, 32, 99, 108, 97, 115, 115, 32, 99, 111, 110, 115, 116, 32, 99, 111, 110, 116, 105, 110, 117, 101, 32, 100, 101, 98, 117, 103, 103, 101, 114, 32, 100, 101, 102, 97, 117, 108, 116, 32, 100, 101, 108, 101, 116, 101, 32, 100, 111, 32, 101, 108, 115, 101, 32, 101, 110, 117, 109, 32, 101, 120, 112, 111, 114, 116, 32, 101, 120, 116, 101, 110, 100, 115, 32, 102, 97, 108, 115, 101, 32, 102, 105, 110, 97, 108, 108, 121, 32, 102, 111, 114, 32, 102, 117, 110, 99, 116, 105, 111, 110, 32, 105, 102, 32, 105, 109, 112, 111, 114, 116, 32, 105, 110, 32, 105, 110, 115, 116, 97, 110, 99, 101, 111, 102, 32, 108, 101, 116, 32, 110, 101, 119, 32, 110, 117, 108, 108, 32, 114, 101, 116, 117, 114, 110, 32, 115, 117, 112, 101, 114, 32, 115, 119, 105, 116, 99, 104, 32, 116, 104, 105, 115, 32, 116, 104, 114, 111, 119, 32, 116, 114, 117, 101, 32, 116, 114, 121, 32, 116, 121, 112, 101, 111, 102, 32, 118, 97, 114, 32, 118, 111, 105, 100, 32, 119, 104, 105, 108, 101, 32, 119, 105, 116, 104, 32, 121, 105, 101, 108, 100, 32]
def word (s : List UInt8) : Bool := !s.isEmpty && (!s.contains 32 && (idx (32 :: (s ++ [32])) wordList).isSome)
/-- is it spelt as a name? -/
def spelt (s : List UInt8) : Bool := match s with
  | [] => false
  | b :: r => letter b.toNat && r.all fun c => letter c.toNat || digit c.toNat
def nameB (s : List UInt8) : Bool := spelt s && !word s
/-- a lexeme; a number is told by its bytes -/
structure Lx where
  kind : Nat
  text : List UInt8
  num : List UInt8
  at_ : Nat
  line : Bool
/-- a lexeme at a place, and the place behind it; 'error true': a number of those that nothing is said about -/
def one (C : List UInt8 → Bool) (l : List UInt8) (i : Nat) (ln : Bool) : Except Bool (Lx × Nat) :=
  if letter (by8 l i) then
    let e := run (fun b => letter b || digit b) l i
    .ok (⟨if word (sub l i e) then 2 else 1, sub l i e, [], i, ln⟩, e)
  else if digit (by8 l i) || (by8 l i == 46 && digit (by8 l (i + 1))) then
    match numeral l i with
    | none => .error false
    | some e => if C (sub l i e) then .ok (⟨3, [], sub l i e, i, ln⟩, e) else .error true
  else if by8 l i = 34 ∨ by8 l i = 39 then
    match quoteGo l (by8 l i) (l.length + 1) (i + 1) with
    | none => .error false
    | some (t, e) => .ok (⟨4, t, [], i, ln⟩, e)
  else match marks.find? fun m => m.isPrefixOf (l.drop i) with
    | none => .error false
    | some m => .ok (⟨5, m, [], i, ln⟩, i + m.length)
/-- how a script ends: its lexemes; a fault's place; none: such a number -/
def lexGo (C : List UInt8 → Bool) (l : List UInt8) : Nat → Nat → Option (Except Nat (List Lx))
  | 0, _ => none
  | f + 1, i =>
    match skip l i with
    | .error k => some (.error k)
    | .ok (j, ln) =>
      if j = l.length then some (.ok [])
      else match one C l j ln with
        | .error true => none
        | .error false => some (.error j)
        | .ok (x, k) => (lexGo C l f k).map fun r => r.map (x :: ·)
def lex (C : List UInt8 → Bool) (l : List UInt8) : Option (Except Nat (List Lx)) := lexGo C l (l.length + 1) 0
def tA : List UInt8 := [97, 49, 43, 61, 48, 120, 49, 70, 32, 47, 42, 10, 42, 47, 32, 34, 92, 120, 52, 49, 34]
def tB : List UInt8 := [120, 32, 48, 49]
def n1F : List UInt8 := [48, 120, 49, 70]
theorem lexGo_end {C : List UInt8 → Bool} {l : List UInt8} {f i j : Nat} {ln : Bool} (h : skip l i = .ok (j, ln)) (hj : j = l.length) : lexGo C l (f + 1) i = some (.ok []) := by
  rw [lexGo, h]; simp only []; rw [if_pos hj]
theorem lexGo_one {C : List UInt8 → Bool} {l : List UInt8} {f i j k : Nat} {ln : Bool} {x : Lx} (h : skip l i = .ok (j, ln)) (hj : j ≠ l.length) (ho : one C l j ln = .ok (x, k)) : lexGo C l (f + 1) i = (lexGo C l f k).map fun r => r.map (x :: ·) := by
  rw [lexGo, h]; simp only []; rw [if_neg hj, ho]
theorem lex_a (C : List UInt8 → Bool) (h : C n1F = true) : lex C tA = some (.ok [⟨1, [97, 49], [], 0, false⟩, ⟨5, [43, 61], [], 2, false⟩, ⟨3, [], n1F, 4, false⟩, ⟨4, [0, 65], [], 15, true⟩]) := by
  have o2 : one C tA 4 false = if C n1F then .ok (⟨3, [], n1F, 4, false⟩, 8) else .error true := by kernel_rfl
  rw [h, if_pos rfl] at o2
  show lexGo C tA (17 + 1 + 1 + 1 + 1 + 1) 0 = _
  rw [lexGo_one (show skip tA 0 = .ok (0, false) by kernel_rfl) (by decide) (show one C tA 0 false = .ok (⟨1, [97, 49], [], 0, false⟩, 2) by kernel_rfl),
    lexGo_one (show skip tA 2 = .ok (2, false) by kernel_rfl) (by decide) (show one C tA 2 false = .ok (⟨5, [43, 61], [], 2, false⟩, 4) by kernel_rfl),
    lexGo_one (show skip tA 4 = .ok (4, false) by kernel_rfl) (by decide) o2,
    lexGo_one (show skip tA 8 = .ok (15, true) by kernel_rfl) (by decide) (show one C tA 15 true = .ok (⟨4, [0, 65], [], 15, true⟩, 21) by kernel_rfl),
    lexGo_end (show skip tA 21 = .ok (21, false) by kernel_rfl) (by decide)]
  rfl
set_option maxRecDepth 1000000 in
theorem lex_b (C : List UInt8 → Bool) : lex C tB = some (.error 2) := by kernel_rfl
theorem word_if : word [105, 102] = true := by kernel_rfl
end Lx
end Go.Proofs.YtclaoeoofbobmaaGreatDoor
namespace Go.Proofs.YtclaoeoofbobmaaGreatDoor
open Go Go.RowKit
set_option linter.all false
namespace Lx
theorem idx_some_of {t : List UInt8} : ∀ (b : List UInt8) (k : Nat), t <+: b.drop k → t ≠ [] → (idx t b).isSome = true
  | [], k, h, ht => by
    rw [List.drop_nil] at h
    exact absurd (List.prefix_nil.1 h) ht
  | b :: r, k, h, ht => by
    rw [idx]
    by_cases h0 : t.isPrefixOf (b :: r) = true
    · rw [if_pos h0]; rfl
    · rw [if_neg h0]
      cases k with
      | zero => exact absurd (List.isPrefixOf_iff_prefix.2 h) h0
      | succ k =>
        have := idx_some_of r k (by simpa using h) ht
        cases hi : idx t r with
        | none => rw [hi] at this; cases this
        | some x => rfl
theorem idx_none_of {t : List UInt8} (ht : t ≠ []) : ∀ (b : List UInt8), (∀ k, k < b.length → ¬ t <+: b.drop k) → idx t b = none
  | [], _ => by rw [idx, if_neg ht]
  | b :: r, h => by
    have h0 := h 0 (by simp)
    rw [idx, if_neg (fun e => h0 (by simpa using List.isPrefixOf_iff_prefix.1 e)), idx_none_of ht r (fun k hk => by have := h (k + 1) (by simp; omega); simpa using this)]
    rfl
theorem idx_lt {t : List UInt8} : ∀ (b : List UInt8) (k : Nat), idx t b = some k → t <+: b.drop k ∧ k + t.length ≤ b.length ∧ ∀ j, j < k → ¬ t <+: b.drop j
  | [], k, h => by
    rw [idx] at h
    split at h
    · rename_i ht; cases h; subst ht; exact ⟨by simp, by simp, fun j hj => absurd hj (by omega)⟩
    · cases h
  | b :: r, k, h => by
    rw [idx] at h
    split at h
    · rename_i h0
      cases h
      have := List.isPrefixOf_iff_prefix.1 h0
      exact ⟨by simpa using this, by have := this.length_le; omega, fun j hj => absurd hj (by omega)⟩
    · rename_i h0
      cases hi : idx t r with
      | none => rw [hi] at h; cases h
      | some x =>
        rw [hi] at h
        cases h
        obtain ⟨k1, k2, k3⟩ := idx_lt r x hi
        refine ⟨by simpa using k1, by simp only [List.length_cons]; omega, fun j hj => ?_⟩
        have hj : j < x + 1 := hj
        cases j with
        | zero => intro e; exact h0 (List.isPrefixOf_iff_prefix.2 (by simpa using e))
        | succ j => simpa using k3 j (by omega)
/-- a word, blanks at its sides, stands at a place -/
theorem stands {s l : List UInt8} {i : Nat} (hi : i + s.length + 2 ≤ l.length) : (32 :: (s ++ [32])) <+: l.drop i ↔ (by8 l i = 32 ∧ sub l (i + 1) (i + 1 + s.length) = s ∧ by8 l (i + 1 + s.length) = 32) := by
  have e1 : l.drop i = UInt8.ofNat (by8 l i) :: l.drop (i + 1) := by
    rw [List.drop_eq_getElem_cons (by omega : i < l.length)]
    congr 1
    simp [by8, List.getD_eq_getElem?_getD, List.getElem?_eq_getElem (by omega : i < l.length)]
  have e2 : l.drop (i + 1) = sub l (i + 1) (i + 1 + s.length) ++ l.drop (i + 1 + s.length) := by
    unfold sub
    rw [show i + 1 + s.length - (i + 1) = s.length by omega, show l.drop (i + 1 + s.length) = (l.drop (i + 1)).drop s.length by rw [List.drop_drop], List.take_append_drop]
  have e3 : l.drop (i + 1 + s.length) = UInt8.ofNat (by8 l (i + 1 + s.length)) :: l.drop (i + 1 + s.length + 1) := by
    rw [List.drop_eq_getElem_cons (by omega : i + 1 + s.length < l.length)]
    congr 1
    simp [by8, List.getD_eq_getElem?_getD, List.getElem?_eq_getElem (by omega : i + 1 + s.length < l.length)]
  have hb : ∀ k, UInt8.ofNat (by8 l k) = 32 ↔ by8 l k = 32 := fun k => by
    have := by8_lt l k
    constructor
    · intro h
      have := congrArg UInt8.toNat h
      rw [UInt8.toNat_ofNat'] at this
      have e : (32 : UInt8).toNat = 32 := rfl
      omega
    · intro h; rw [h]; rfl
  have hsl : (sub l (i + 1) (i + 1 + s.length)).length = s.length := by rw [length_sub]; omega
  rw [e1, List.cons_prefix_cons, e2, e3]
  constructor
  · rintro ⟨h1, h2⟩
    have h3 : s = sub l (i + 1) (i + 1 + s.length) := by
      have := List.prefix_append s [32]
      have h4 := this.trans h2
      have h5 := List.prefix_iff_eq_take.1 h4
      rw [List.take_append_of_le_length (by omega), List.take_of_length_le (by omega)] at h5
      exact h5
    rw [← h3, List.prefix_append_right_inj, List.cons_prefix_cons] at h2
    exact ⟨(hb i).1 h1.symm, h3.symm, (hb _).1 h2.1.symm⟩
  · rintro ⟨h1, h2, h3⟩
    refine ⟨((hb i).2 h1).symm, ?_⟩
    rw [h2, List.prefix_append_right_inj, List.cons_prefix_cons]
    exact ⟨((hb _).2 h3).symm, List.nil_prefix⟩
def idxI : Option Nat → Int
  | none => -1
  | some k => (k : Int)
theorem contains_idx (t : List UInt8) : ∀ l : List UInt8, Lib.index l t = idxI (idx t l)
  | [] => by
    rw [Lib.index, idx]
    cases t <;> rfl
  | b :: r => by
    rw [Lib.index, idx, contains_idx t r]
    by_cases h : t.isPrefixOf (b :: r) = true
    · rw [if_pos h, if_pos h]; rfl
    · rw [if_neg h, if_neg h]
      cases hi : idx t r with
      | none => rfl
      | some k =>
        have : ((k : Int) == -1) = false := by rw [beq_eq_false_iff_ne]; omega
        simp [this, idxI]
end Lx
end Go.Proofs.YtclaoeoofbobmaaGreatDoor
namespace Go.Proofs.YtclaoeoofbobmaaGreatDoor
open Go Go.RowKit
set_option linter.all false
namespace Lx
theorem chr_end {l : List UInt8} {i : Nat} (h : (chr l i).2 ≠ 0) : i + (chr l i).2 ≤ l.length := by
  have hN : ∀ n c low, (chrN l i n c low).2 ≠ 0 → i + (chrN l i n c low).2 ≤ l.length := fun n c low g => by
    unfold chrN at g ⊢
    split
    · rename_i q; exact q.1
    · rename_i q; rw [if_neg q] at g; exact absurd rfl g
  unfold chr at h ⊢
  split
  · rename_i q; rw [if_pos q] at h; exact absurd rfl h
  · rename_i q
    rw [if_neg q] at h
    split
    · simp only; omega
    · rename_i q1; rw [if_neg q1] at h
      split
      · rename_i q2; rw [if_pos q2] at h; exact hN _ _ _ h
      · rename_i q2; rw [if_neg q2] at h
        split
        · rename_i q3; rw [if_pos q3] at h; exact hN _ _ _ h
        · rename_i q3; rw [if_neg q3] at h
          split
          · rename_i q4; rw [if_pos q4] at h; exact hN _ _ _ h
          · rename_i q4; rw [if_neg q4] at h; exact absurd rfl h
theorem lineGo_le (l : List UInt8) : ∀ (f i j : Nat), lineGo l f i = .ok j → i ≤ l.length → i ≤ j ∧ j ≤ l.length
  | 0, i, j, h, hi => by rw [lineGo] at h; cases h; omega
  | f + 1, i, j, h, hi => by
    rw [lineGo] at h
    split at h
    · split at h
      · cases h
      · rename_i hn
        split at h
        · cases h; omega
        · have := lineGo_le l f _ j h (chr_end hn)
          omega
    · cases h; omega
theorem skipGo_le (l : List UInt8) : ∀ (f i j : Nat) (a b : Bool), skipGo l f i a = .ok (j, b) → i ≤ l.length → i ≤ j ∧ j ≤ l.length
  | 0, i, j, a, b, h, hi => by rw [skipGo] at h; cases h; omega
  | f + 1, i, j, a, b, h, hi => by
    rw [skipGo] at h
    split at h
    · split at h
      · cases h
      rename_i hn
      have hc := chr_end hn
      split at h
      · have := skipGo_le l f _ j _ b h hc; omega
      split at h
      · have := skipGo_le l f _ j _ b h hc; omega
      split at h
      · split at h
        · cases h
        · rename_i k hk
          have h1 := lineGo_le l _ _ _ hk hi
          have := skipGo_le l f _ j _ b h h1.2
          omega
      split at h
      · split at h
        · cases h
        · rename_i k hk
          have h1 := (idx_lt _ _ hk).2.1
          rw [List.length_drop] at h1
          simp only [List.length_cons, List.length_nil] at h1
          split at h
          · cases h
          · have := skipGo_le l f _ j _ b h (by omega)
            omega
      · cases h; omega
    · cases h; omega
theorem runGo_le (p : Nat → Bool) : ∀ xs : List UInt8, runGo p xs ≤ xs.length
  | [] => Nat.le_refl _
  | b :: r => by
    rw [runGo]
    split
    · have := runGo_le p r; simp; omega
    · omega
theorem run_le (p : Nat → Bool) (l : List UInt8) (i : Nat) : i ≤ run p l i ∧ (i ≤ l.length → run p l i ≤ l.length) := by
  have := runGo_le p (l.drop i)
  rw [List.length_drop] at this
  unfold run
  omega
theorem by8_ge {l : List UInt8} {i : Nat} (h : l.length ≤ i) : by8 l i = 0 := by simp [by8, List.getD_eq_getElem?_getD, List.getElem?_eq_none h]
theorem at_lt {l : List UInt8} {i : Nat} (h : by8 l i ≠ 0) : i < l.length := by
  rcases Nat.lt_or_ge i l.length with g | g
  · exact g
  · exact absurd (by8_ge g) h
theorem run_pos {p : Nat → Bool} {l : List UInt8} {i : Nat} (hi : i < l.length) (h : p (by8 l i) = true) : i < run p l i := by
  have e : l.drop i = UInt8.ofNat (by8 l i) :: l.drop (i + 1) := by
    rw [List.drop_eq_getElem_cons hi]
    congr 1
    simp [by8, List.getD_eq_getElem?_getD, List.getElem?_eq_getElem hi]
  have hb := by8_lt l i
  have e2 : (UInt8.ofNat (by8 l i)).toNat = by8 l i := by rw [UInt8.toNat_ofNat']; omega
  unfold run
  rw [e, runGo, e2, if_pos h]
  omega
theorem ptd_le {l : List UInt8} {a : Nat} (h : a ≤ l.length) : a ≤ ptd l a ∧ ptd l a ≤ l.length := by
  unfold ptd
  split
  · rename_i g
    have : a < l.length := at_lt (by omega)
    have := run_le digit l (a + 1)
    omega
  · omega
theorem sgn_le {l : List UInt8} {a : Nat} (h : a ≤ l.length) : a ≤ sgn l a ∧ sgn l a ≤ l.length := by
  unfold sgn
  split
  · rename_i g
    have : a < l.length := at_lt (by omega)
    omega
  · omega
theorem numEnd_le {l : List UInt8} {i e : Nat} (h : numEnd l i = some e) (hi : i < l.length) : i ≤ e ∧ e ≤ l.length := by
  unfold numEnd at h
  have ra := run_le digit l i
  have rb := ptd_le (l := l) (a := run digit l i) (by omega)
  split at h
  · rename_i q
    split at h
    · cases h
    · cases h
      have := run_le sixteen l (i + 2)
      omega
  split at h
  · cases h
  split at h
  · rename_i q
    split at h
    · cases h
    · cases h
      have : ptd l (run digit l i) < l.length := at_lt (by omega)
      have := sgn_le (l := l) (a := ptd l (run digit l i) + 1) (by omega)
      have := run_le digit l (sgn l (ptd l (run digit l i) + 1))
      omega
  · cases h; omega
theorem run_no {p : Nat → Bool} {l : List UInt8} {i : Nat} (h : p (by8 l i) = false) (hp : p 0 = false) : run p l i = i := by
  unfold run
  rcases Nat.lt_or_ge i l.length with hi | hi
  · have hb := by8_lt l i
    have e : l.drop i = UInt8.ofNat (by8 l i) :: l.drop (i + 1) := by
      rw [List.drop_eq_getElem_cons hi]
      congr 1
      simp [by8, List.getD_eq_getElem?_getD, List.getElem?_eq_getElem hi]
    have e2 : (UInt8.ofNat (by8 l i)).toNat = by8 l i := by rw [UInt8.toNat_ofNat']; omega
    rw [e, runGo, e2, if_neg (by rw [h]; simp)]
    rfl
  · rw [List.drop_of_length_le hi]; rfl
theorem numEnd_gt {l : List UInt8} {i e : Nat} (h : numEnd l i = some e) (hi : i < l.length) (hd : (digit (by8 l i) || (by8 l i == 46 && digit (by8 l (i + 1)))) = true) : i < e := by
  unfold numEnd at h
  have ra := run_le digit l i
  have rb := ptd_le (l := l) (a := run digit l i) (by omega)
  have hb : i < ptd l (run digit l i) := by
    rcases hq : digit (by8 l i) with _ | _
    · rw [hq] at hd
      simp only [Bool.false_or, Bool.and_eq_true, beq_iff_eq] at hd
      rw [run_no hq (by decide)]
      unfold ptd
      rw [if_pos hd.1]
      have := run_le digit l (i + 1)
      omega
    · have := run_pos hi hq
      omega
  split at h
  · split at h
    · cases h
    · cases h
      have := run_le sixteen l (i + 2)
      omega
  split at h
  · cases h
  split at h
  · rename_i q
    split at h
    · cases h
    · cases h
      have : ptd l (run digit l i) < l.length := at_lt (by omega)
      have := sgn_le (l := l) (a := ptd l (run digit l i) + 1) (by omega)
      have := run_le digit l (sgn l (ptd l (run digit l i) + 1))
      omega
  · cases h; exact hb
theorem hexGo_le (l : List UInt8) : ∀ (n i u v j : Nat), hexGo l n i u = some (v, j) → i ≤ l.length → i ≤ j ∧ j ≤ l.length
  | 0, i, u, v, j, h, hi => by rw [hexGo] at h; cases h; omega
  | n + 1, i, u, v, j, h, hi => by
    rw [hexGo] at h
    split at h
    · rename_i q
      have : i < l.length := at_lt (fun e => by rw [e] at q; exact absurd q (by decide))
      have := hexGo_le l n _ _ _ _ h (by omega)
      omega
    · cases h
theorem escape_le {l : List UInt8} {i j : Nat} {t : List UInt8} (h : escape l i = some (t, j)) : i ≤ j ∧ j ≤ l.length := by
  unfold escape at h
  simp only at h
  split at h
  · cases h
  rename_i hn
  have hc := chr_end hn
  split at h
  · cases h; omega
  split at h
  · obtain ⟨x, hx, e⟩ := Option.map_eq_some_iff.1 h
    cases e
    have := hexGo_le l _ _ _ x.1 x.2 hx hc
    omega
  split at h
  · obtain ⟨x, hx, e⟩ := Option.map_eq_some_iff.1 h
    cases e
    have := hexGo_le l _ _ _ x.1 x.2 hx hc
    omega
  split at h
  · split at h
    · cases h
    · cases h; omega
  split at h
  · cases h
  split at h
  · rename_i q
    cases h
    have := at_lt (l := l) (i := i + (chr l i).2) (by omega)
    omega
  split at h
  · cases h; omega
  · cases h; omega
theorem quoteGo_le (l : List UInt8) (m : Nat) : ∀ (f i j : Nat) (t : List UInt8), quoteGo l m f i = some (t, j) → i ≤ j ∧ j ≤ l.length
  | 0, i, j, t, h => by rw [quoteGo] at h; cases h
  | f + 1, i, j, t, h => by
    rw [quoteGo] at h
    split at h
    · cases h
    rename_i hn
    have hc := chr_end (l := l) (i := i) (fun e => hn (.inl e))
    split at h
    · cases h; omega
    split at h
    · obtain ⟨x, hx, h2⟩ := Option.bind_eq_some_iff.1 h
      obtain ⟨y, hy, e⟩ := Option.map_eq_some_iff.1 h2
      cases e
      have h3 := escape_le (t := x.1) (j := x.2) hx
      have h4 := quoteGo_le l m f _ y.2 y.1 hy
      omega
    · obtain ⟨y, hy, e⟩ := Option.map_eq_some_iff.1 h
      cases e
      have h4 := quoteGo_le l m f _ y.2 y.1 hy
      omega
def named (x : Lx) : Nat := if x.kind = 3 ∨ x.kind = 4 then 0 else x.text.length
theorem marks_ne : ∀ m ∈ marks, m ≠ [] := by decide
/-- what is right of a lexeme and the place behind it -/
theorem one_ok {C : List UInt8 → Bool} {l : List UInt8} {i k : Nat} {ln : Bool} {x : Lx} (h : one C l i ln = .ok (x, k)) (hi : i < l.length) :
    x.at_ = i ∧ i + max 1 (named x) ≤ k ∧ k ≤ l.length ∧ (0 < named x → sub l i (i + named x) = x.text) ∧ x.line = ln := by
  unfold one at h
  split at h
  · rename_i q
    have r1 := run_pos (p := fun b => letter b || digit b) hi (by simp [q])
    have r2 := (run_le (fun b => letter b || digit b) l i).2 (by omega)
    simp only at h
    obtain ⟨e, he⟩ : ∃ e, run (fun b => letter b || digit b) l i = e := ⟨_, rfl⟩
    rw [he] at h r1 r2
    have hl : (sub l i e).length = e - i := by rw [length_sub]; omega
    obtain ⟨hx, hk⟩ := Prod.mk.inj (Except.ok.inj h)
    subst hx
    rw [← hk]
    have hn : named ⟨if word (sub l i e) = true then 2 else 1, sub l i e, [], i, ln⟩ = e - i := by
      unfold named
      rw [if_neg (by show ¬ ((if word (sub l i e) = true then 2 else 1) = 3 ∨ (if word (sub l i e) = true then 2 else 1) = 4); split <;> omega)]
      exact hl
    rw [hn]
    exact ⟨rfl, by omega, by omega, fun _ => by rw [show i + (e - i) = e by omega], rfl⟩
  split at h
  · rename_i q0 q
    split at h
    · cases h
    · rename_i e he
      split at h
      · cases h
        have hne : numEnd l i = some k := by
          unfold numeral at he
          obtain ⟨y, hy, h2⟩ := Option.bind_eq_some_iff.1 he
          split at h2
          · cases h2
          · cases h2; exact hy
        have h1 := numEnd_le hne hi
        have h2 := numEnd_gt hne hi q
        exact ⟨rfl, by simp only [named]; simp; omega, h1.2, fun g => by simp [named] at g, rfl⟩
      · cases h
  split at h
  · split at h
    · cases h
    · rename_i t e he
      cases h
      have h1 := quoteGo_le l _ _ _ _ _ he
      exact ⟨rfl, by simp only [named]; simp; omega, h1.2, fun g => by simp [named] at g, rfl⟩
  · split at h
    · cases h
    · rename_i m hm
      cases h
      have h1 := List.find?_some hm
      have h2 := marks_ne m (List.mem_of_find?_eq_some hm)
      have h3 := List.isPrefixOf_iff_prefix.1 h1
      have h4 := h3.length_le
      rw [List.length_drop] at h4
      have h5 := List.length_pos_iff.2 h2
      have hn : named ⟨5, m, [], i, ln⟩ = m.length := rfl
      rw [hn]
      refine ⟨rfl, by omega, by omega, fun _ => ?_, rfl⟩
      have h6 := List.prefix_iff_eq_take.1 h3
      unfold sub
      rw [show i + m.length - i = m.length by omega]
      exact h6.symm
/-- lexemes rise -/
def Cov (l : List UInt8) : Nat → List Lx → Prop
  | _, [] => True
  | lo, x :: r => lo ≤ x.at_ ∧ x.at_ < l.length ∧ (0 < named x → x.at_ + named x ≤ l.length ∧ sub l x.at_ (x.at_ + named x) = x.text) ∧ Cov l (x.at_ + max 1 (named x)) r
theorem Cov.mono {l : List UInt8} {a b : Nat} {xs : List Lx} (h : Cov l b xs) (hab : a ≤ b) : Cov l a xs := by
  cases xs with
  | nil => trivial
  | cons x r => exact ⟨Nat.le_trans hab h.1, h.2⟩
theorem lexGo_cov (C : List UInt8 → Bool) (l : List UInt8) : ∀ (f i : Nat) (xs : List Lx), lexGo C l f i = some (.ok xs) → i ≤ l.length → Cov l i xs
  | 0, i, xs, h, _ => by rw [lexGo] at h; cases h
  | f + 1, i, xs, h, hi => by
    rw [lexGo] at h
    split at h
    · cases h
    · rename_i j ln hs
      have h1 := skipGo_le l _ _ _ _ _ hs hi
      split at h
      · cases h; trivial
      · rename_i hj
        split at h
        · cases h
        · cases h
        · rename_i x k ho
          obtain ⟨a1, a2, a3, a4, -⟩ := one_ok ho (by omega)
          obtain ⟨r, hr, e⟩ := Option.map_eq_some_iff.1 h
          cases r with
          | error e' => cases e
          | ok r =>
            cases e
            have ih := lexGo_cov C l f k r hr a3
            exact ⟨by omega, by omega, fun g => ⟨by omega, by rw [a1]; exact a4 g⟩, ih.mono (by omega)⟩
end Lx
end Go.Proofs.YtclaoeoofbobmaaGreatDoor
namespace Go.Proofs.YtclaoeoofbobmaaGreatDoor
open Go Go.RowKit
set_option linter.all false
namespace Lx
theorem lineGo_fuel (l : List UInt8) : ∀ (f g i : Nat), l.length < i + f → l.length < i + g → lineGo l f i = lineGo l g i
  | 0, g, i, hf, hg => by
    cases g with
    | zero => rfl
    | succ g => rw [lineGo, lineGo, if_neg (by omega)]
  | f + 1, 0, i, hf, hg => by rw [lineGo, lineGo, if_neg (by omega)]
  | f + 1, g + 1, i, hf, hg => by
    rw [lineGo, lineGo]
    by_cases hi : i < l.length
    · rw [if_pos hi, if_pos hi]
      by_cases hn : (chr l i).2 = 0
      · rw [if_pos hn, if_pos hn]
      · rw [if_neg hn, if_neg hn, lineGo_fuel l f g _ (by omega) (by omega)]
    · rw [if_neg hi, if_neg hi]
theorem skipGo_fuel (l : List UInt8) : ∀ (f g i : Nat) (a : Bool), l.length < i + f → l.length < i + g → i ≤ l.length → skipGo l f i a = skipGo l g i a
  | 0, g, i, a, hf, hg, hi => by
    cases g with
    | zero => rfl
    | succ g => rw [skipGo, skipGo, if_neg (by omega)]
  | f + 1, 0, i, a, hf, hg, hi => by rw [skipGo, skipGo, if_neg (by omega)]
  | f + 1, g + 1, i, a, hf, hg, hi => by
    rw [skipGo, skipGo]
    by_cases hil : i < l.length
    · rw [if_pos hil, if_pos hil]
      by_cases hn : (chr l i).2 = 0
      · rw [if_pos hn, if_pos hn]
      · have hc := chr_end hn
        rw [if_neg hn, if_neg hn, skipGo_fuel l f g (i + (chr l i).2) true (by omega) (by omega) hc, skipGo_fuel l f g (i + (chr l i).2) a (by omega) (by omega) hc]
        split
        · rfl
        split
        · rfl
        split
        · rename_i h1 h2 hp
          cases hk : lineGo l (l.length + 1) i with
          | error k => rfl
          | ok j =>
            have h3 := lineGo_le l _ _ _ hk hi
            have h4 : i < j := by
              rw [lineGo, if_pos hil, if_neg hn, if_neg h1] at hk
              have := lineGo_le l _ _ _ hk hc
              omega
            simp only []
            exact skipGo_fuel l f g j a (by omega) (by omega) h3.2
        split
        · cases hk : idx [42, 47] (l.drop (i + 2)) with
          | none => rfl
          | some k =>
            have h1 := (idx_lt _ _ hk).2.1
            rw [List.length_drop] at h1
            simp only [List.length_cons, List.length_nil] at h1
            simp only []
            cases remark (sub l (i + 2) (i + 2 + k)) with
            | none => rfl
            | some e => exact skipGo_fuel l f g _ _ (by omega) (by omega) (by omega)
        · rfl
    · rw [if_neg hil, if_neg hil]
theorem quoteGo_fuel (l : List UInt8) (m : Nat) : ∀ (f g i : Nat), l.length < i + f → l.length < i + g → quoteGo l m f i = quoteGo l m g i
  | 0, 0, i, hf, hg => rfl
  | 0, g + 1, i, hf, hg => by
    have : (chr l i).2 = 0 := by unfold chr; rw [if_pos (by omega)]
    rw [quoteGo, quoteGo, if_pos (.inl this)]
  | f + 1, 0, i, hf, hg => by
    have : (chr l i).2 = 0 := by unfold chr; rw [if_pos (by omega)]
    rw [quoteGo, quoteGo, if_pos (.inl this)]
  | f + 1, g + 1, i, hf, hg => by
    rw [quoteGo, quoteGo]
    by_cases hn : (chr l i).2 = 0 ∨ (chr l i).1 = 10 ∨ (chr l i).1 = 13
    · rw [if_pos hn, if_pos hn]
    · have hn0 : (chr l i).2 ≠ 0 := fun e => hn (.inl e)
      rw [if_neg hn, if_neg hn, quoteGo_fuel l m f g (i + (chr l i).2) (by omega) (by omega)]
      split
      · rfl
      split
      · cases he : escape l (i + (chr l i).2) with
        | none => rfl
        | some x =>
          have h4 := escape_le (t := x.1) (j := x.2) he
          rw [Option.bind_some, Option.bind_some, quoteGo_fuel l m f g x.2 (by omega) (by omega)]
      · rfl
theorem lexGo_fuel (C : List UInt8 → Bool) (l : List UInt8) : ∀ (f g i : Nat), l.length < i + f → l.length < i + g → i ≤ l.length → lexGo C l f i = lexGo C l g i
  | 0, g, i, hf, hg, hi => by omega
  | f + 1, 0, i, hf, hg, hi => by omega
  | f + 1, g + 1, i, hf, hg, hi => by
    rw [lexGo, lexGo]
    cases hs : skip l i with
    | error k => rfl
    | ok x =>
      obtain ⟨j, ln⟩ := x
      have h1 := skipGo_le l _ _ _ _ _ hs hi
      simp only []
      by_cases hj : j = l.length
      · rw [if_pos hj, if_pos hj]
      · rw [if_neg hj, if_neg hj]
        rcases ho : one C l j ln with b | ⟨x, k⟩
        · cases b <;> rfl
        · obtain ⟨a1, a2, a3, -⟩ := one_ok ho (by omega)
          simp only []
          rw [lexGo_fuel C l f g k (by omega) (by omega) a3]
/-! ### a blank ahead -/
theorem by8_sh (l : List UInt8) (i : Nat) : by8 (32 :: l) (i + 1) = by8 l i := by simp [by8]
theorem drop_sh (l : List UInt8) (i : Nat) : (32 :: l).drop (i + 1) = l.drop i := rfl
theorem sub_sh (l : List UInt8) (i j : Nat) : sub (32 :: l) (i + 1) (j + 1) = sub l i j := by
  unfold sub; rw [drop_sh, show j + 1 - (i + 1) = j - i by omega]
theorem contB_sh (l : List UInt8) (i : Nat) : ∀ k, contB (32 :: l) (i + 1) k = contB l i k
  | 0 => rfl
  | k + 1 => by
    rw [contB, contB, contB_sh l i k, show i + 1 + k + 1 = (i + k + 1) + 1 by omega, by8_sh]
theorem valB_sh (l : List UInt8) (i c : Nat) : ∀ k, valB (32 :: l) (i + 1) c k = valB l i c k
  | 0 => rfl
  | k + 1 => by
    show valB (32 :: l) (i + 1) c k * 64 + by8 (32 :: l) (i + 1 + k + 1) - 128 = valB l i c k * 64 + by8 l (i + k + 1) - 128
    rw [valB_sh l i c k, show i + 1 + k + 1 = (i + k + 1) + 1 by omega, by8_sh]
theorem chrN_sh (l : List UInt8) (i n c low : Nat) : chrN (32 :: l) (i + 1) n c low = chrN l i n c low := by
  unfold chrN
  rw [contB_sh, valB_sh]
  have hL : (32 :: l).length = l.length + 1 := rfl
  split
  · rename_i h
    rw [if_pos ⟨by omega, h.2⟩]
  · rename_i h
    rw [if_neg (fun g => h ⟨by omega, g.2⟩)]
theorem chr_sh (l : List UInt8) (i : Nat) : chr (32 :: l) (i + 1) = chr l i := by
  unfold chr
  rw [by8_sh, chrN_sh, chrN_sh, chrN_sh]
  have hL : (32 :: l).length = l.length + 1 := rfl
  by_cases h : l.length ≤ i
  · rw [if_pos h, if_pos (by omega)]
  · rw [if_neg h, if_neg (by omega)]
theorem run_sh (p : Nat → Bool) (l : List UInt8) (i : Nat) : run p (32 :: l) (i + 1) = run p l i + 1 := by
  unfold run; rw [drop_sh]; omega
theorem lineGo_sh (l : List UInt8) : ∀ (f i : Nat), lineGo (32 :: l) f (i + 1) = (match lineGo l f i with | .ok j => .ok (j + 1) | .error k => .error (k + 1))
  | 0, i => rfl
  | f + 1, i => by
    rw [lineGo, lineGo, chr_sh]
    by_cases hi : i < l.length
    · rw [if_pos hi, if_pos (by simp only [List.length_cons]; omega)]
      by_cases hn : (chr l i).2 = 0
      · rw [if_pos hn, if_pos hn]
      · rw [if_neg hn, if_neg hn]
        by_cases he : endsC (chr l i).1 = true
        · rw [if_pos he, if_pos he]
        · rw [if_neg he, if_neg he, show i + 1 + (chr l i).2 = i + (chr l i).2 + 1 by omega, lineGo_sh l f]
    · rw [if_neg hi, if_neg (by simp only [List.length_cons]; omega)]
def shE : Except Nat (Nat × Bool) → Except Nat (Nat × Bool)
  | .ok (j, b) => .ok (j + 1, b)
  | .error k => .error (k + 1)
theorem skipGo_sh (l : List UInt8) : ∀ (f i : Nat) (a : Bool), skipGo (32 :: l) f (i + 1) a = shE (skipGo l f i a)
  | 0, i, a => rfl
  | f + 1, i, a => by
    rw [skipGo, skipGo, chr_sh]
    by_cases hi : i < l.length
    · rw [if_pos hi, if_pos (by simp only [List.length_cons]; omega)]
      by_cases hn : (chr l i).2 = 0
      · rw [if_pos hn, if_pos hn]; rfl
      · rw [if_neg hn, if_neg hn, show i + 1 + (chr l i).2 = i + (chr l i).2 + 1 by omega, skipGo_sh l f, skipGo_sh l f]
        split
        · rfl
        split
        · rfl
        rw [drop_sh]
        split
        · have e : lineGo (32 :: l) ((32 :: l).length + 1) (i + 1) = (match lineGo l (l.length + 1) i with | .ok j => .ok (j + 1) | .error k => .error (k + 1)) := by
            rw [lineGo_sh, lineGo_fuel l ((32 :: l).length + 1) (l.length + 1) i (by simp only [List.length_cons]; omega) (by omega)]
          rw [e]
          cases lineGo l (l.length + 1) i with
          | error k => rfl
          | ok j => exact skipGo_sh l f j a
        split
        · rw [show i + 1 + 2 = i + 2 + 1 by omega, drop_sh]
          cases idx [42, 47] (l.drop (i + 2)) with
          | none => rfl
          | some k =>
            simp only []
            rw [show i + 2 + 1 + k = i + 2 + k + 1 by omega, sub_sh]
            cases remark (sub l (i + 2) (i + 2 + k)) with
            | none => rfl
            | some e =>
              simp only []
              rw [show i + 1 + k + 4 = i + k + 4 + 1 by omega]
              exact skipGo_sh l f _ _
        · rfl
    · rw [if_neg hi, if_neg (by simp only [List.length_cons]; omega)]; rfl
theorem skip_sh (l : List UInt8) (i : Nat) (hi : i ≤ l.length) : skip (32 :: l) (i + 1) = shE (skip l i) := by
  unfold skip
  rw [skipGo_sh, skipGo_fuel l ((32 :: l).length + 1) (l.length + 1) i false (by simp only [List.length_cons]; omega) (by omega) hi]
theorem chr_low' (l : List UInt8) : chr (32 :: l) 0 = (32, 1) := by
  unfold chr
  rw [if_neg (by simp), if_pos (by simp [by8])]
  rfl
theorem skip_sh0 (l : List UInt8) : skip (32 :: l) 0 = shE (skip l 0) := by
  have hc : chr (32 :: l) 0 = (32, 1) := chr_low' l
  have : skip (32 :: l) 0 = skipGo (32 :: l) (l.length + 1) 1 false := by
    unfold skip
    rw [List.length_cons, skipGo, if_pos (by simp), hc]
    simp only []
    rw [if_neg (by decide), if_neg (by decide), if_pos (by decide)]
  rw [this, skipGo_sh]
  rfl
theorem numEnd_sh (l : List UInt8) (i : Nat) : numEnd (32 :: l) (i + 1) = (numEnd l i).map (· + 1) := by
  have hp : ptd (32 :: l) (run digit (32 :: l) (i + 1)) = ptd l (run digit l i) + 1 := by
    rw [run_sh]
    unfold ptd
    rw [by8_sh, run_sh]
    split <;> rfl
  have hs : sgn (32 :: l) (ptd l (run digit l i) + 1 + 1) = sgn l (ptd l (run digit l i) + 1) + 1 := by
    unfold sgn
    rw [by8_sh]
    split <;> rfl
  have hL : (32 :: l).length = l.length + 1 := rfl
  unfold numEnd
  rw [hp, by8_sh, by8_sh, by8_sh, hs, run_sh, show i + 1 + 2 = i + 2 + 1 by omega, run_sh, run_sh, hL]
  by_cases h1 : by8 l i = 48 ∧ i + 1 < l.length ∧ (by8 l (i + 1) = 120 ∨ by8 l (i + 1) = 88)
  · rw [if_pos h1, if_pos ⟨h1.1, by omega, h1.2.2⟩]
    by_cases h2 : run sixteen l (i + 2) = i + 2
    · rw [if_pos h2, if_pos (by omega)]; rfl
    · rw [if_neg h2, if_neg (by omega)]; rfl
  · rw [if_neg h1, if_neg (fun g => h1 ⟨g.1, by omega, g.2.2⟩)]
    by_cases h2 : 1 < run digit l i - i ∧ by8 l i = 48
    · rw [if_pos h2, if_pos ⟨by omega, h2.2⟩]; rfl
    · rw [if_neg h2, if_neg (fun g => h2 ⟨by omega, g.2⟩)]
      split
      · by_cases h3 : run digit l (sgn l (ptd l (run digit l i) + 1)) = sgn l (ptd l (run digit l i) + 1)
        · rw [if_pos h3, if_pos (by omega)]; rfl
        · rw [if_neg h3, if_neg (by omega)]; rfl
      · rfl
theorem numeral_sh (l : List UInt8) (i : Nat) : numeral (32 :: l) (i + 1) = (numeral l i).map (· + 1) := by
  unfold numeral
  rw [numEnd_sh]
  cases numEnd l i with
  | none => rfl
  | some e =>
    simp only [Option.map_some, Option.bind_some, by8_sh]
    split <;> rfl
theorem hexGo_sh (l : List UInt8) : ∀ (n i u : Nat), hexGo (32 :: l) n (i + 1) u = (hexGo l n i u).map fun x => (x.1, x.2 + 1)
  | 0, i, u => rfl
  | n + 1, i, u => by
    rw [hexGo, hexGo, by8_sh]
    split
    · exact hexGo_sh l n (i + 1) _
    · rfl
def shT (x : List UInt8 × Nat) : List UInt8 × Nat := (x.1, x.2 + 1)
theorem escape_sh (l : List UInt8) (i : Nat) : escape (32 :: l) (i + 1) = (escape l i).map shT := by
  unfold escape
  rw [chr_sh, show i + 1 + (chr l i).2 = i + (chr l i).2 + 1 by omega]
  simp only [hexGo_sh, by8_sh]
  split
  · rfl
  split
  · rfl
  split
  · cases hexGo l 2 (i + (chr l i).2) 0 <;> rfl
  split
  · cases hexGo l 4 (i + (chr l i).2) 0 <;> rfl
  split
  · split <;> rfl
  split
  · rfl
  split
  · rfl
  split
  · rfl
  · rfl
theorem quoteGo_sh (l : List UInt8) (m : Nat) : ∀ (f i : Nat), quoteGo (32 :: l) m f (i + 1) = (quoteGo l m f i).map shT
  | 0, i => rfl
  | f + 1, i => by
    rw [quoteGo, quoteGo, chr_sh, show i + 1 + (chr l i).2 = i + (chr l i).2 + 1 by omega, escape_sh, quoteGo_sh l m f]
    split
    · rfl
    split
    · rfl
    split
    · cases escape l (i + (chr l i).2) with
      | none => rfl
      | some x =>
        simp only [Option.map_some, Option.bind_some, shT]
        rw [quoteGo_sh l m f]
        cases quoteGo l m f x.2 <;> rfl
    · cases quoteGo l m f (i + (chr l i).2) <;> rfl
def Lx.sh (x : Lx) : Lx := { x with at_ := x.at_ + 1 }
def shO : Except Bool (Lx × Nat) → Except Bool (Lx × Nat)
  | .ok (x, k) => .ok (x.sh, k + 1)
  | .error b => .error b
theorem one_sh (C : List UInt8 → Bool) (l : List UInt8) (i : Nat) (ln : Bool) : one C (32 :: l) (i + 1) ln = shO (one C l i ln) := by
  unfold one
  have hq : quoteGo (32 :: l) (by8 l i) ((32 :: l).length + 1) (i + 1 + 1) = (quoteGo l (by8 l i) (l.length + 1) (i + 1)).map shT := by
    rw [quoteGo_sh, quoteGo_fuel l (by8 l i) ((32 :: l).length + 1) (l.length + 1) (i + 1) (by simp only [List.length_cons]; omega) (by omega)]
  rw [by8_sh, by8_sh, run_sh, numeral_sh, hq, drop_sh]
  split
  · simp only [sub_sh]
    rfl
  split
  · cases numeral l i with
    | none => rfl
    | some e =>
      simp only [Option.map_some, sub_sh]
      split <;> rfl
  split
  · cases quoteGo l (by8 l i) (l.length + 1) (i + 1) <;> rfl
  · cases hm : marks.find? fun m => m.isPrefixOf (l.drop i) with
    | none => rfl
    | some m =>
      simp only []
      rw [show i + 1 + m.length = i + m.length + 1 by omega]
      rfl
def shR : Except Nat (List Lx) → Except Nat (List Lx)
  | .ok xs => .ok (xs.map Lx.sh)
  | .error k => .error (k + 1)
theorem lexGo_sh (C : List UInt8 → Bool) (l : List UInt8) : ∀ (f i : Nat), i ≤ l.length → lexGo C (32 :: l) f (i + 1) = (lexGo C l f i).map shR
  | 0, i, _ => rfl
  | f + 1, i, hi => by
    rw [lexGo, lexGo, skip_sh l i hi]
    cases hs : skip l i with
    | error k => rfl
    | ok x =>
      obtain ⟨j, ln⟩ := x
      have h1 := skipGo_le l _ _ _ _ _ hs hi
      simp only [shE]
      by_cases hj : j = l.length
      · rw [if_pos hj, if_pos (by simp only [List.length_cons]; omega)]; rfl
      · rw [if_neg hj, if_neg (by simp only [List.length_cons]; omega), one_sh]
        rcases ho : one C l j ln with b | ⟨x, k⟩
        · cases b <;> rfl
        · obtain ⟨a1, a2, a3, -⟩ := one_ok ho (by omega)
          simp only [shO]
          rw [lexGo_sh C l f k a3]
          cases lexGo C l f k with
          | none => rfl
          | some r => cases r <;> rfl
/-- A BLANK AHEAD -/
theorem lex_sh (C : List UInt8 → Bool) (l : List UInt8) : lex C (32 :: l) = (lex C l).map shR := by
  have e1 : lex C (32 :: l) = lexGo C (32 :: l) ((32 :: l).length + 1) 1 := by
    unfold lex
    rw [lexGo, lexGo, skip_sh0, skip_sh l 0 (Nat.zero_le _)]
  rw [e1, lexGo_sh C l _ 0 (Nat.zero_le _), lexGo_fuel C l ((32 :: l).length + 1) (l.length + 1) 0 (by simp only [List.length_cons]; omega) (by omega) (Nat.zero_le _)]
  rfl
end Lx
end Go.Proofs.YtclaoeoofbobmaaGreatDoor
namespace Go.Proofs.YtclaoeoofbobmaaGreatDoor
open Go Go.RowKit
set_option linter.all false
namespace Lx
/-- plain bytes as units -/
def w16 (t : List UInt8) : List UInt8 := t.flatMap fun b => [0, b]
theorem wide_plain (t : List UInt8) (h : ∀ b ∈ t, b.toNat < 128) : wideR t = (w16 t, 0, 0) := by
  have e1 : (t.map UInt8.toNat).flatMap enc = t := by
    induction t with
    | nil => rfl
    | cons b r ih =>
      have hb := h b (by simp)
      rw [List.map_cons, List.flatMap_cons, ih (fun c hc => h c (by simp [hc]))]
      unfold enc
      rw [if_pos hb]
      simp
  have e2 : (t.map UInt8.toNat).flatMap _root_.Go.Proofs.YtclaoeoofbobmaaGreatDoor.units = w16 t := by
    clear e1
    induction t with
    | nil => rfl
    | cons b r ih =>
      have hb := h b (by simp)
      rw [List.map_cons, List.flatMap_cons, ih (fun c hc => h c (by simp [hc]))]
      unfold _root_.Go.Proofs.YtclaoeoofbobmaaGreatDoor.units w16 unit8
      rw [if_neg (by omega), List.flatMap_cons, show b.toNat / 256 = 0 by omega, show b.toNat % 256 = b.toNat by omega]
      simp
  have := wideR_flat (t.map UInt8.toNat) (fun c hc => by
    obtain ⟨b, hb, rfl⟩ := List.mem_map.1 hc
    have := h b hb
    unfold okc; omega)
  rw [e1, e2] at this
  exact this
theorem run_all (q : Nat → Bool) (l : List UInt8) (i k : Nat) (h1 : i ≤ k) (h2 : k < run q l i) : q (by8 l k) = true := by
  have key : ∀ (xs : List UInt8) (m : Nat), m < runGo q xs → q (by8 xs m) = true := fun xs => by
    induction xs with
    | nil => intro m hm; simp [runGo] at hm
    | cons b r ih =>
      intro m hm
      rw [runGo] at hm
      split at hm
      · rename_i hb
        cases m with
        | zero => simpa [by8] using hb
        | succ m => have := ih m (by omega); simpa [by8] using this
      · omega
  have := key (l.drop i) (k - i) (by unfold run at h2; omega)
  have e : by8 (l.drop i) (k - i) = by8 l k := by
    unfold by8
    simp only [List.getD_eq_getElem?_getD, List.getElem?_drop]
    rw [show i + (k - i) = k by omega]
  rwa [e] at this
theorem digit_low {b : Nat} (h : digit b = true) : b < 128 := by simp [digit] at h; omega
theorem sixteen_low {b : Nat} (h : sixteen b = true) : b < 128 := by simp [sixteen] at h; omega
theorem ptd_low {l : List UInt8} {i a : Nat} (h : ∀ k, i ≤ k → k < a → by8 l k < 128) : ∀ k, i ≤ k → k < ptd l a → by8 l k < 128 := by
  intro k h1 h2
  unfold ptd at h2
  split at h2
  · rename_i g
    rcases Nat.lt_trichotomy k a with hk | hk | hk
    · exact h k h1 hk
    · subst hk; omega
    · exact digit_low (run_all digit l (a + 1) k (by omega) h2)
  · exact h k h1 h2
theorem sgn_low {l : List UInt8} {i a : Nat} (h : ∀ k, i ≤ k → k < a → by8 l k < 128) : ∀ k, i ≤ k → k < sgn l a → by8 l k < 128 := by
  intro k h1 h2
  unfold sgn at h2
  split at h2
  · rename_i g
    rcases Nat.lt_or_ge k a with hk | hk
    · exact h k h1 hk
    · obtain rfl : k = a := by omega
      omega
  · exact h k h1 h2
theorem num_low {l : List UInt8} {i e : Nat} (h : numEnd l i = some e) : ∀ k, i ≤ k → k < e → by8 l k < 128 := by
  unfold numEnd at h
  have h0 : ∀ k, i ≤ k → k < run digit l i → by8 l k < 128 := fun k h1 h2 => digit_low (run_all digit l i k h1 h2)
  have hp := ptd_low h0
  split at h
  · rename_i q
    split at h
    · cases h
    · cases h
      intro k h1 h2
      rcases Nat.lt_or_ge k (i + 2) with hk | hk
      · rcases (show k = i ∨ k = i + 1 by omega) with rfl | rfl
        · omega
        · omega
      · exact sixteen_low (run_all sixteen l (i + 2) k hk h2)
  split at h
  · cases h
  split at h
  · rename_i q
    split at h
    · cases h
    · cases h
      intro k h1 h2
      have hs : ∀ k, i ≤ k → k < sgn l (ptd l (run digit l i) + 1) → by8 l k < 128 := sgn_low (fun k h1 h2 => by
        rcases Nat.lt_or_ge k (ptd l (run digit l i)) with hk | hk
        · exact hp k h1 hk
        · obtain rfl : k = ptd l (run digit l i) := by omega
          omega)
      rcases Nat.lt_or_ge k (sgn l (ptd l (run digit l i) + 1)) with hk | hk
      · exact hs k h1 hk
      · exact digit_low (run_all digit l _ k hk h2)
  · cases h
    exact hp
theorem sub_low {l : List UInt8} {i e : Nat} (h : ∀ k, i ≤ k → k < e → by8 l k < 128) : ∀ b ∈ sub l i e, b.toNat < 128 := by
  intro b hb
  obtain ⟨k, hk, rfl⟩ := List.mem_iff_getElem.1 hb
  have hl := hk
  rw [length_sub] at hl
  have := h (i + k) (by omega) (by omega)
  have e2 : by8 (sub l i e) k = (sub l i e)[k].toNat := by simp [by8, List.getD_eq_getElem?_getD, List.getElem?_eq_getElem hk]
  rw [by8_sub, if_pos (by omega)] at e2
  omega
end Lx
end Go.Proofs.YtclaoeoofbobmaaGreatDoor
