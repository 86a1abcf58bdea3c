/- Decimal digits: what they say, and a number's own. No program in sight. -/
import Derived.Test.YtfophnmnehpenaaDoorBase
import Derived.Lib.AtoiAll
import Derived.Lib.ItoaNum
namespace Go.Proofs.YtfophnmnehpenaaDoor
open Go Go.RowKit
set_option linter.all false
def digB (c : UInt8) : Bool := decide (48 ≤ c.toNat) && decide (c.toNat ≤ 57)
def digitsB (l : List UInt8) : Bool := l.all digB
/-- what digits say behind a number -/
def dnext (a : Nat) (c : UInt8) : Nat := a * 10 + (c.toNat - 48)
def dval (acc : Nat) (l : List UInt8) : Nat := l.foldl dnext acc
theorem dval_nil (a : Nat) : dval a [] = a := rfl
theorem dval_cons (a : Nat) (c : UInt8) (r : List UInt8) : dval a (c :: r) = dval (a * 10 + (c.toNat - 48)) r := by
  unfold dval
  rw [List.foldl_cons, dnext]
theorem dval_append (x y : List UInt8) (a : Nat) : dval a (x ++ y) = dval (dval a x) y := by
  unfold dval
  rw [List.foldl_append]
theorem dval_ge : ∀ (l : List UInt8) (a : Nat), a ≤ dval a l
  | [], a => Nat.le_refl a
  | c :: r, a => by
    have := dval_ge r (a * 10 + (c.toNat - 48))
    rw [dval_cons]
    omega
theorem parse_dval : ∀ (l : List UInt8) (a : Nat), digitsB l = true → dval a l < 9223372036854775808 → Lib.parseUint10 a l = .ok (dval a l)
  | [], a, _, _ => by rw [dval_nil, Lib.parseUint10]
  | c :: r, a, hd, hv => by
    unfold digitsB at hd
    rw [List.all_cons, Bool.and_eq_true] at hd
    have hc : 48 ≤ c.toNat ∧ c.toNat ≤ 57 := by simpa [digB] using hd.1
    rw [dval_cons] at hv ⊢
    have := dval_ge r (a * 10 + (c.toNat - 48))
    rw [Lib.parseUint10, if_pos hc, if_neg (by omega), if_neg (by omega)]
    exact parse_dval r _ hd.2 hv
theorem dig_of (u : Nat) (h : u < 10) : (UInt8.ofNat (48 + u)).toNat = 48 + u := by rw [UInt8.toNat_ofNat']; omega
theorem decDigits_facts : ∀ u : Nat, dval 0 (Lib.decDigits u) = u ∧ digitsB (Lib.decDigits u) = true ∧ ∃ c r, Lib.decDigits u = c :: r ∧ (0 < u → c.toNat ≠ 48) := by
  intro u
  induction u using Nat.strongRecOn with
  | _ u ih =>
    rw [Lib.decDigits]
    by_cases h : u < 10
    · rw [dif_pos h]
      have e := dig_of u h
      refine ⟨?_, ?_, _, _, rfl, fun h0 => by rw [e]; omega⟩
      · rw [dval_cons, dval_nil, e]; omega
      · simp only [digitsB, List.all_cons, List.all_nil, digB, e]; simp; omega
    · rw [dif_neg h]
      obtain ⟨h1, h2, c, r, h3, h4⟩ := ih (u / 10) (by omega)
      have e := dig_of (u % 10) (by omega)
      refine ⟨?_, ?_, c, r ++ [UInt8.ofNat (48 + u % 10)], by rw [h3]; rfl, fun _ => h4 (by omega)⟩
      · rw [dval_append, h1, dval_cons, dval_nil, e]; omega
      · unfold digitsB at h2 ⊢
        rw [List.all_append, h2]
        simp only [List.all_cons, List.all_nil, digB, e]; simp; omega
theorem dec_of_dval : ∀ (n : Nat) (l : List UInt8), l.length = n → l ≠ [] → digitsB l = true → (l.head?.map (·.toNat) ≠ some 48 ∨ l.length = 1) → Lib.decDigits (dval 0 l) = l := by
  intro n
  induction n with
  | zero => intro l hl hne; exact absurd (List.length_eq_zero_iff.1 hl) hne
  | succ n ih =>
    intro l hl hne hd hh
    obtain ⟨q, c, rfl⟩ : ∃ q c, l = q ++ [c] := ⟨l.dropLast, l.getLast hne, (List.dropLast_concat_getLast hne).symm⟩
    unfold digitsB at hd
    rw [List.all_append, Bool.and_eq_true] at hd
    obtain ⟨hq, hc⟩ := hd
    have hc : 48 ≤ c.toNat ∧ c.toNat ≤ 57 := by simpa [digB] using hc
    have hcc : UInt8.ofNat (48 + (c.toNat - 48)) = c := by rw [show 48 + (c.toNat - 48) = c.toNat by omega]; simp
    rw [dval_append]
    have hlast : dval (dval 0 q) [c] = dval 0 q * 10 + (c.toNat - 48) := by rw [dval_cons, dval_nil]
    rw [hlast]
    cases hq0 : q with
    | nil =>
      subst hq0
      have : dval 0 ([] : List UInt8) = 0 := rfl
      rw [this, Nat.zero_mul, Nat.zero_add, Lib.decDigits, dif_pos (by omega), hcc]
      rfl
    | cons d q' =>
      have hd48 : d.toNat ≠ 48 := by
        rcases hh with hh | hh
        · rw [hq0] at hh; simpa using hh
        · rw [hq0] at hh; simp at hh
      have hdd : 48 ≤ d.toNat ∧ d.toNat ≤ 57 := by
        rw [hq0, List.all_cons, Bool.and_eq_true] at hq
        simpa [digB] using hq.1
      rw [← hq0]
      have hpos : 1 ≤ dval 0 q := by
        rw [hq0, dval_cons]
        have := dval_ge q' (0 * 10 + (d.toNat - 48))
        omega
      rw [Lib.decDigits, dif_neg (by omega)]
      have e1 : (dval 0 q * 10 + (c.toNat - 48)) / 10 = dval 0 q := by omega
      have e2 : (dval 0 q * 10 + (c.toNat - 48)) % 10 = c.toNat - 48 := by omega
      rw [e1, e2, hcc, ih q (by simpa using hl) (by rw [hq0]; simp) hq (.inl (by rw [hq0]; simpa using hd48))]
/-- digits with no 0 ahead that say at most 65535 -/
def portOf (p : List UInt8) : Option Int :=
  if p ≠ [] ∧ digitsB p = true ∧ p.head?.map (·.toNat) ≠ some 48 ∧ dval 0 p ≤ 65535 then some (dval 0 p) else none
theorem itoa_pos {n : Int} (h : 1 ≤ n) : Lib.itoa n = Lib.decDigits n.toNat := by rw [Lib.itoa, if_neg (by omega)]
theorem portOf_some {p : List UInt8} {n : Int} : portOf p = some n ↔ (Lib.atoiAll p = .ok n ∧ Lib.itoa n = p ∧ 1 ≤ n ∧ n ≤ 65535) := by
  constructor
  · intro h
    unfold portOf at h
    split at h
    · rename_i hc
      obtain ⟨h1, h2, h3, h4⟩ := hc
      obtain rfl := Option.some.inj h
      cases hp : p with
      | nil => exact absurd hp h1
      | cons c r =>
        rw [hp] at h2 h3 h4 h1
        have hc : 48 ≤ c.toNat ∧ c.toNat ≤ 57 := by
          unfold digitsB at h2
          rw [List.all_cons, Bool.and_eq_true] at h2
          simpa [digB] using h2.1
        have h48 : c.toNat ≠ 48 := by simpa using h3
        have hpos : 1 ≤ dval 0 (c :: r) := by
          have := dval_ge r (0 * 10 + (c.toNat - 48))
          rw [dval_cons]
          omega
        refine ⟨?_, ?_, by omega, by omega⟩
        · unfold Lib.atoiAll Lib.parseMag
          have e1 : ¬ (c.toNat = 43 ∨ c.toNat = 45) := by omega
          have e2 : ¬ c.toNat = 45 := by omega
          have e3 : ¬ c.toNat = 43 := by omega
          simp only [e2, e3, or_self, if_false]
          rw [if_neg h1, parse_dval (c :: r) 0 h2 (by omega)]
          simp only [not_false_eq_true, true_and, false_and, if_false]
          rw [if_neg (by omega)]
        · rw [itoa_pos (by omega)]
          have := dec_of_dval _ (c :: r) rfl h1 h2 (.inl h3)
          simpa using this
    · cases h
  · rintro ⟨_, h2, h3, h4⟩
    rw [itoa_pos h3] at h2
    obtain ⟨f1, f2, c, r, f3, f4⟩ := decDigits_facts n.toNat
    rw [h2] at f1 f2 f3
    unfold portOf
    rw [if_pos ⟨by rw [f3]; simp, f2, by rw [f3]; simpa using f4 (by omega), by omega⟩, f1]
    congr 1
    omega
end Go.Proofs.YtfophnmnehpenaaDoor
