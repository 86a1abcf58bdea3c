/- Layer 5, in plain words: a blank ahead moves all by one. -/
import Derived.Test.YtepmneongpbglaaGreatDoorLxPure4
namespace Go.Proofs.YtepmneongpbglaaGreatDoor
open Go Go.RowKit
set_option linter.all false
namespace Lx
theorem lineGo_fuel (l : List UInt8) : ∀ (f g i : Nat), l.length < i + f → l.length < i + g → lineGo l f i = lineGo l g i
  | 0, g, i, hf, hg => by
    cases g with
    | zero => rfl
    | succ g => rw [lineGo, lineGo, if_neg (by omega)]
  | f + 1, 0, i, hf, hg => by rw [lineGo, lineGo, if_neg (by omega)]
  | f + 1, g + 1, i, hf, hg => by
    rw [lineGo, lineGo]
    by_cases hi : i < l.length
    · rw [if_pos hi, if_pos hi]
      by_cases hn : (chr l i).2 = 0
      · rw [if_pos hn, if_pos hn]
      · rw [if_neg hn, if_neg hn, lineGo_fuel l f g _ (by omega) (by omega)]
    · rw [if_neg hi, if_neg hi]
theorem skipGo_fuel (l : List UInt8) : ∀ (f g i : Nat) (a : Bool), l.length < i + f → l.length < i + g → i ≤ l.length → skipGo l f i a = skipGo l g i a
  | 0, g, i, a, hf, hg, hi => by
    cases g with
    | zero => rfl
    | succ g => rw [skipGo, skipGo, if_neg (by omega)]
  | f + 1, 0, i, a, hf, hg, hi => by rw [skipGo, skipGo, if_neg (by omega)]
  | f + 1, g + 1, i, a, hf, hg, hi => by
    rw [skipGo, skipGo]
    by_cases hil : i < l.length
    · rw [if_pos hil, if_pos hil]
      by_cases hn : (chr l i).2 = 0
      · rw [if_pos hn, if_pos hn]
      · have hc := chr_end hn
        rw [if_neg hn, if_neg hn, skipGo_fuel l f g (i + (chr l i).2) true (by omega) (by omega) hc, skipGo_fuel l f g (i + (chr l i).2) a (by omega) (by omega) hc]
        split
        · rfl
        split
        · rfl
        split
        · rename_i h1 h2 hp
          cases hk : lineGo l (l.length + 1) i with
          | error k => rfl
          | ok j =>
            have h3 := lineGo_le l _ _ _ hk hi
            have h4 : i < j := by
              rw [lineGo, if_pos hil, if_neg hn, if_neg h1] at hk
              have := lineGo_le l _ _ _ hk hc
              omega
            simp only []
            exact skipGo_fuel l f g j a (by omega) (by omega) h3.2
        split
        · cases hk : idx [42, 47] (l.drop (i + 2)) with
          | none => rfl
          | some k =>
            have h1 := (idx_lt _ _ hk).2.1
            rw [List.length_drop] at h1
            simp only [List.length_cons, List.length_nil] at h1
            simp only []
            cases remark (sub l (i + 2) (i + 2 + k)) with
            | none => rfl
            | some e => exact skipGo_fuel l f g _ _ (by omega) (by omega) (by omega)
        · rfl
    · rw [if_neg hil, if_neg hil]
theorem quoteGo_fuel (l : List UInt8) (m : Nat) : ∀ (f g i : Nat), l.length < i + f → l.length < i + g → quoteGo l m f i = quoteGo l m g i
  | 0, 0, i, hf, hg => rfl
  | 0, g + 1, i, hf, hg => by
    have : (chr l i).2 = 0 := by unfold chr; rw [if_pos (by omega)]
    rw [quoteGo, quoteGo, if_pos (.inl this)]
  | f + 1, 0, i, hf, hg => by
    have : (chr l i).2 = 0 := by unfold chr; rw [if_pos (by omega)]
    rw [quoteGo, quoteGo, if_pos (.inl this)]
  | f + 1, g + 1, i, hf, hg => by
    rw [quoteGo, quoteGo]
    by_cases hn : (chr l i).2 = 0 ∨ (chr l i).1 = 10 ∨ (chr l i).1 = 13
    · rw [if_pos hn, if_pos hn]
    · have hn0 : (chr l i).2 ≠ 0 := fun e => hn (.inl e)
      rw [if_neg hn, if_neg hn, quoteGo_fuel l m f g (i + (chr l i).2) (by omega) (by omega)]
      split
      · rfl
      split
      · cases he : escape l (i + (chr l i).2) with
        | none => rfl
        | some x =>
          have h4 := escape_le (t := x.1) (j := x.2) he
          rw [Option.bind_some, Option.bind_some, quoteGo_fuel l m f g x.2 (by omega) (by omega)]
      · rfl
theorem lexGo_fuel (C : List UInt8 → Bool) (l : List UInt8) : ∀ (f g i : Nat), l.length < i + f → l.length < i + g → i ≤ l.length → lexGo C l f i = lexGo C l g i
  | 0, g, i, hf, hg, hi => by omega
  | f + 1, 0, i, hf, hg, hi => by omega
  | f + 1, g + 1, i, hf, hg, hi => by
    rw [lexGo, lexGo]
    cases hs : skip l i with
    | error k => rfl
    | ok x =>
      obtain ⟨j, ln⟩ := x
      have h1 := skipGo_le l _ _ _ _ _ hs hi
      simp only []
      by_cases hj : j = l.length
      · rw [if_pos hj, if_pos hj]
      · rw [if_neg hj, if_neg hj]
        rcases ho : one C l j ln with b | ⟨x, k⟩
        · cases b <;> rfl
        · obtain ⟨a1, a2, a3, -⟩ := one_ok ho (by omega)
          simp only []
          rw [lexGo_fuel C l f g k (by omega) (by omega) a3]
/-! ### a blank ahead -/
theorem by8_sh (l : List UInt8) (i : Nat) : by8 (32 :: l) (i + 1) = by8 l i := by simp [by8]
theorem drop_sh (l : List UInt8) (i : Nat) : (32 :: l).drop (i + 1) = l.drop i := rfl
theorem sub_sh (l : List UInt8) (i j : Nat) : sub (32 :: l) (i + 1) (j + 1) = sub l i j := by
  unfold sub; rw [drop_sh, show j + 1 - (i + 1) = j - i by omega]
theorem contB_sh (l : List UInt8) (i : Nat) : ∀ k, contB (32 :: l) (i + 1) k = contB l i k
  | 0 => rfl
  | k + 1 => by
    rw [contB, contB, contB_sh l i k, show i + 1 + k + 1 = (i + k + 1) + 1 by omega, by8_sh]
theorem valB_sh (l : List UInt8) (i c : Nat) : ∀ k, valB (32 :: l) (i + 1) c k = valB l i c k
  | 0 => rfl
  | k + 1 => by
    show valB (32 :: l) (i + 1) c k * 64 + by8 (32 :: l) (i + 1 + k + 1) - 128 = valB l i c k * 64 + by8 l (i + k + 1) - 128
    rw [valB_sh l i c k, show i + 1 + k + 1 = (i + k + 1) + 1 by omega, by8_sh]
theorem chrN_sh (l : List UInt8) (i n c low : Nat) : chrN (32 :: l) (i + 1) n c low = chrN l i n c low := by
  unfold chrN
  rw [contB_sh, valB_sh]
  have hL : (32 :: l).length = l.length + 1 := rfl
  split
  · rename_i h
    rw [if_pos ⟨by omega, h.2⟩]
  · rename_i h
    rw [if_neg (fun g => h ⟨by omega, g.2⟩)]
theorem chr_sh (l : List UInt8) (i : Nat) : chr (32 :: l) (i + 1) = chr l i := by
  unfold chr
  rw [by8_sh, chrN_sh, chrN_sh, chrN_sh]
  have hL : (32 :: l).length = l.length + 1 := rfl
  by_cases h : l.length ≤ i
  · rw [if_pos h, if_pos (by omega)]
  · rw [if_neg h, if_neg (by omega)]
theorem run_sh (p : Nat → Bool) (l : List UInt8) (i : Nat) : run p (32 :: l) (i + 1) = run p l i + 1 := by
  unfold run; rw [drop_sh]; omega
theorem lineGo_sh (l : List UInt8) : ∀ (f i : Nat), lineGo (32 :: l) f (i + 1) = (match lineGo l f i with | .ok j => .ok (j + 1) | .error k => .error (k + 1))
  | 0, i => rfl
  | f + 1, i => by
    rw [lineGo, lineGo, chr_sh]
    by_cases hi : i < l.length
    · rw [if_pos hi, if_pos (by simp only [List.length_cons]; omega)]
      by_cases hn : (chr l i).2 = 0
      · rw [if_pos hn, if_pos hn]
      · rw [if_neg hn, if_neg hn]
        by_cases he : endsC (chr l i).1 = true
        · rw [if_pos he, if_pos he]
        · rw [if_neg he, if_neg he, show i + 1 + (chr l i).2 = i + (chr l i).2 + 1 by omega, lineGo_sh l f]
    · rw [if_neg hi, if_neg (by simp only [List.length_cons]; omega)]
def shE : Except Nat (Nat × Bool) → Except Nat (Nat × Bool)
  | .ok (j, b) => .ok (j + 1, b)
  | .error k => .error (k + 1)
theorem skipGo_sh (l : List UInt8) : ∀ (f i : Nat) (a : Bool), skipGo (32 :: l) f (i + 1) a = shE (skipGo l f i a)
  | 0, i, a => rfl
  | f + 1, i, a => by
    rw [skipGo, skipGo, chr_sh]
    by_cases hi : i < l.length
    · rw [if_pos hi, if_pos (by simp only [List.length_cons]; omega)]
      by_cases hn : (chr l i).2 = 0
      · rw [if_pos hn, if_pos hn]; rfl
      · rw [if_neg hn, if_neg hn, show i + 1 + (chr l i).2 = i + (chr l i).2 + 1 by omega, skipGo_sh l f, skipGo_sh l f]
        split
        · rfl
        split
        · rfl
        rw [drop_sh]
        split
        · have e : lineGo (32 :: l) ((32 :: l).length + 1) (i + 1) = (match lineGo l (l.length + 1) i with | .ok j => .ok (j + 1) | .error k => .error (k + 1)) := by
            rw [lineGo_sh, lineGo_fuel l ((32 :: l).length + 1) (l.length + 1) i (by simp only [List.length_cons]; omega) (by omega)]
          rw [e]
          cases lineGo l (l.length + 1) i with
          | error k => rfl
          | ok j => exact skipGo_sh l f j a
        split
        · rw [show i + 1 + 2 = i + 2 + 1 by omega, drop_sh]
          cases idx [42, 47] (l.drop (i + 2)) with
          | none => rfl
          | some k =>
            simp only []
            rw [show i + 2 + 1 + k = i + 2 + k + 1 by omega, sub_sh]
            cases remark (sub l (i + 2) (i + 2 + k)) with
            | none => rfl
            | some e =>
              simp only []
              rw [show i + 1 + k + 4 = i + k + 4 + 1 by omega]
              exact skipGo_sh l f _ _
        · rfl
    · rw [if_neg hi, if_neg (by simp only [List.length_cons]; omega)]; rfl
theorem skip_sh (l : List UInt8) (i : Nat) (hi : i ≤ l.length) : skip (32 :: l) (i + 1) = shE (skip l i) := by
  unfold skip
  rw [skipGo_sh, skipGo_fuel l ((32 :: l).length + 1) (l.length + 1) i false (by simp only [List.length_cons]; omega) (by omega) hi]
theorem chr_low' (l : List UInt8) : chr (32 :: l) 0 = (32, 1) := by
  unfold chr
  rw [if_neg (by simp), if_pos (by simp [by8])]
  rfl
theorem skip_sh0 (l : List UInt8) : skip (32 :: l) 0 = shE (skip l 0) := by
  have hc : chr (32 :: l) 0 = (32, 1) := chr_low' l
  have : skip (32 :: l) 0 = skipGo (32 :: l) (l.length + 1) 1 false := by
    unfold skip
    rw [List.length_cons, skipGo, if_pos (by simp), hc]
    simp only []
    rw [if_neg (by decide), if_neg (by decide), if_pos (by decide)]
  rw [this, skipGo_sh]
  rfl
theorem numEnd_sh (l : List UInt8) (i : Nat) : numEnd (32 :: l) (i + 1) = (numEnd l i).map (· + 1) := by
  have hp : ptd (32 :: l) (run digit (32 :: l) (i + 1)) = ptd l (run digit l i) + 1 := by
    rw [run_sh]
    unfold ptd
    rw [by8_sh, run_sh]
    split <;> rfl
  have hs : sgn (32 :: l) (ptd l (run digit l i) + 1 + 1) = sgn l (ptd l (run digit l i) + 1) + 1 := by
    unfold sgn
    rw [by8_sh]
    split <;> rfl
  have hL : (32 :: l).length = l.length + 1 := rfl
  unfold numEnd
  rw [hp, by8_sh, by8_sh, by8_sh, hs, run_sh, show i + 1 + 2 = i + 2 + 1 by omega, run_sh, run_sh, hL]
  by_cases h1 : by8 l i = 48 ∧ i + 1 < l.length ∧ (by8 l (i + 1) = 120 ∨ by8 l (i + 1) = 88)
  · rw [if_pos h1, if_pos ⟨h1.1, by omega, h1.2.2⟩]
    by_cases h2 : run sixteen l (i + 2) = i + 2
    · rw [if_pos h2, if_pos (by omega)]; rfl
    · rw [if_neg h2, if_neg (by omega)]; rfl
  · rw [if_neg h1, if_neg (fun g => h1 ⟨g.1, by omega, g.2.2⟩)]
    by_cases h2 : 1 < run digit l i - i ∧ by8 l i = 48
    · rw [if_pos h2, if_pos ⟨by omega, h2.2⟩]; rfl
    · rw [if_neg h2, if_neg (fun g => h2 ⟨by omega, g.2⟩)]
      split
      · by_cases h3 : run digit l (sgn l (ptd l (run digit l i) + 1)) = sgn l (ptd l (run digit l i) + 1)
        · rw [if_pos h3, if_pos (by omega)]; rfl
        · rw [if_neg h3, if_neg (by omega)]; rfl
      · rfl
theorem numeral_sh (l : List UInt8) (i : Nat) : numeral (32 :: l) (i + 1) = (numeral l i).map (· + 1) := by
  unfold numeral
  rw [numEnd_sh]
  cases numEnd l i with
  | none => rfl
  | some e =>
    simp only [Option.map_some, Option.bind_some, by8_sh]
    split <;> rfl
theorem hexGo_sh (l : List UInt8) : ∀ (n i u : Nat), hexGo (32 :: l) n (i + 1) u = (hexGo l n i u).map fun x => (x.1, x.2 + 1)
  | 0, i, u => rfl
  | n + 1, i, u => by
    rw [hexGo, hexGo, by8_sh]
    split
    · exact hexGo_sh l n (i + 1) _
    · rfl
def shT (x : List UInt8 × Nat) : List UInt8 × Nat := (x.1, x.2 + 1)
theorem escape_sh (l : List UInt8) (i : Nat) : escape (32 :: l) (i + 1) = (escape l i).map shT := by
  unfold escape
  rw [chr_sh, show i + 1 + (chr l i).2 = i + (chr l i).2 + 1 by omega]
  simp only [hexGo_sh, by8_sh]
  split
  · rfl
  split
  · rfl
  split
  · cases hexGo l 2 (i + (chr l i).2) 0 <;> rfl
  split
  · cases hexGo l 4 (i + (chr l i).2) 0 <;> rfl
  split
  · split <;> rfl
  split
  · rfl
  split
  · rfl
  split
  · rfl
  · rfl
theorem quoteGo_sh (l : List UInt8) (m : Nat) : ∀ (f i : Nat), quoteGo (32 :: l) m f (i + 1) = (quoteGo l m f i).map shT
  | 0, i => rfl
  | f + 1, i => by
    rw [quoteGo, quoteGo, chr_sh, show i + 1 + (chr l i).2 = i + (chr l i).2 + 1 by omega, escape_sh, quoteGo_sh l m f]
    split
    · rfl
    split
    · rfl
    split
    · cases escape l (i + (chr l i).2) with
      | none => rfl
      | some x =>
        simp only [Option.map_some, Option.bind_some, shT]
        rw [quoteGo_sh l m f]
        cases quoteGo l m f x.2 <;> rfl
    · cases quoteGo l m f (i + (chr l i).2) <;> rfl
def Lx.sh (x : Lx) : Lx := { x with at_ := x.at_ + 1 }
def shO : Except Bool (Lx × Nat) → Except Bool (Lx × Nat)
  | .ok (x, k) => .ok (x.sh, k + 1)
  | .error b => .error b
theorem one_sh (C : List UInt8 → Bool) (l : List UInt8) (i : Nat) (ln : Bool) : one C (32 :: l) (i + 1) ln = shO (one C l i ln) := by
  unfold one
  have hq : quoteGo (32 :: l) (by8 l i) ((32 :: l).length + 1) (i + 1 + 1) = (quoteGo l (by8 l i) (l.length + 1) (i + 1)).map shT := by
    rw [quoteGo_sh, quoteGo_fuel l (by8 l i) ((32 :: l).length + 1) (l.length + 1) (i + 1) (by simp only [List.length_cons]; omega) (by omega)]
  rw [by8_sh, by8_sh, run_sh, numeral_sh, hq, drop_sh]
  split
  · simp only [sub_sh]
    rfl
  split
  · cases numeral l i with
    | none => rfl
    | some e =>
      simp only [Option.map_some, sub_sh]
      split <;> rfl
  split
  · cases quoteGo l (by8 l i) (l.length + 1) (i + 1) <;> rfl
  · cases hm : marks.find? fun m => m.isPrefixOf (l.drop i) with
    | none => rfl
    | some m =>
      simp only []
      rw [show i + 1 + m.length = i + m.length + 1 by omega]
      rfl
def shR : Except Nat (List Lx) → Except Nat (List Lx)
  | .ok xs => .ok (xs.map Lx.sh)
  | .error k => .error (k + 1)
theorem lexGo_sh (C : List UInt8 → Bool) (l : List UInt8) : ∀ (f i : Nat), i ≤ l.length → lexGo C (32 :: l) f (i + 1) = (lexGo C l f i).map shR
  | 0, i, _ => rfl
  | f + 1, i, hi => by
    rw [lexGo, lexGo, skip_sh l i hi]
    cases hs : skip l i with
    | error k => rfl
    | ok x =>
      obtain ⟨j, ln⟩ := x
      have h1 := skipGo_le l _ _ _ _ _ hs hi
      simp only [shE]
      by_cases hj : j = l.length
      · rw [if_pos hj, if_pos (by simp only [List.length_cons]; omega)]; rfl
      · rw [if_neg hj, if_neg (by simp only [List.length_cons]; omega), one_sh]
        rcases ho : one C l j ln with b | ⟨x, k⟩
        · cases b <;> rfl
        · obtain ⟨a1, a2, a3, -⟩ := one_ok ho (by omega)
          simp only [shO]
          rw [lexGo_sh C l f k a3]
          cases lexGo C l f k with
          | none => rfl
          | some r => cases r <;> rfl
/-- A BLANK AHEAD -/
theorem lex_sh (C : List UInt8 → Bool) (l : List UInt8) : lex C (32 :: l) = (lex C l).map shR := by
  have e1 : lex C (32 :: l) = lexGo C (32 :: l) ((32 :: l).length + 1) 1 := by
    unfold lex
    rw [lexGo, lexGo, skip_sh0, skip_sh l 0 (Nat.zero_le _)]
  rw [e1, lexGo_sh C l _ 0 (Nat.zero_le _), lexGo_fuel C l ((32 :: l).length + 1) (l.length + 1) 0 (by simp only [List.length_cons]; omega) (by omega) (Nat.zero_le _)]
  rfl
end Lx
end Go.Proofs.YtepmneongpbglaaGreatDoor
